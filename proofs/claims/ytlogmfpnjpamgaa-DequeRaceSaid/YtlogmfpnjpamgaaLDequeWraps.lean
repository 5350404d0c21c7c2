/- DequeWraps returns true, whatever the kind, the room and the number of times are. -/
import Derived.Test.YtlogmfpnjpamgaaDeqV
open Go Go.RowKit
namespace Go.Proofs.Ytlogmfpnjpamgaa

/-- x + 1 to x + n. -/
def rngL (x n : Nat) : List Int := (List.range n).map (fun j => ((x + j + 1 : Nat) : Int))
theorem rngL_len (x n : Nat) : (rngL x n).length = n := by simp [rngL]
theorem rngL_succ (x n : Nat) : rngL x (n + 1) = rngL x n ++ [((x + n + 1 : Nat) : Int)] := by simp [rngL, List.range_succ]
theorem rngL_getD {x n i : Nat} (h : i < n) : (rngL x n).getD i 0 = ((x + i + 1 : Nat) : Int) := by
  simp [rngL, List.getD_eq_getElem?_getD, h]
theorem rngL_dropLast (x n : Nat) : (rngL x (n + 1)).dropLast = rngL x n := by rw [rngL_succ, List.dropLast_concat]

/-- What is left behind j pops. -/
def wrapL (k x n j : Nat) : List Int := if k = 3 then (rngL x n).drop j else rngL x (n - j)
def wrapN (k x n j : Nat) : Int := if k = 3 then ((x + j + 1 : Nat) : Int) else ((x + n - j : Nat) : Int)

theorem wraps_run {k room x n j u : Nat} (hk : k = 1 ∨ k = 2 ∨ k = 3) (hj : j < n) (D : Dq) (h : Rep k room (wrapL k x n j) u D) : ∃ u', Runs k room D 1 0 (wrapN k x n j) 0 (wrapL k x n (j + 1)) u' := by
  unfold wrapL wrapN at *
  by_cases h3 : k = 3
  · subst h3
    rw [if_pos rfl] at h
    rw [if_pos rfl, if_pos rfl]
    have := alone_pop_first h (by rw [List.length_drop, rngL_len]; omega)
    rw [List.tail_drop] at this
    have e : ((rngL x n).drop j).getD 0 0 = ((x + j + 1 : Nat) : Int) := by
      have := rngL_getD (x := x) hj
      rw [List.getD_eq_getElem?_getD] at this ⊢
      rw [List.getElem?_drop]
      exact this
    rw [e] at this
    exact ⟨_, this⟩
  · rw [if_neg h3] at h
    rw [if_neg h3, if_neg h3]
    have := alone_pop_last (by omega) h (by rw [rngL_len]; omega)
    obtain ⟨q, hq⟩ : ∃ q, n - j = q + 1 := ⟨n - j - 1, by omega⟩
    rw [hq, rngL_dropLast, rngL_len, rngL_getD (by omega)] at this
    rw [show x + n - j = x + (q + 1 - 1) + 1 by omega, show n - (j + 1) = q by omega]
    exact ⟨_, this⟩

theorem DSO.runE {w wr : World} {m a b d kind room N what : Nat} {l : List Int} {used o : Nat} {x res why : Int} {l' : List Int} (h : DSO w wr m a b d kind room N l used o what x) (hk : kind = 1 ∨ kind = 2 ∨ kind = 3) (hw : what ≤ 2) (hN : N ≤ 900000)
    (hr : ∀ D, Rep kind room l used D → ∃ u', Runs kind room D what x res why l' u') :
    Calls Try.prog 18 #[.pointer (some ⟨m, 0, none⟩), .pointer (some ⟨o, 0, none⟩)] wr (fun e w1 => e = .returned (.tuple #[.int .i64 res, .int .i64 why]) ∧ ∃ u', DS w w1 m a b d kind room (N + 20) l' u') := by
  obtain ⟨⟨D, hW, hD, hrep⟩, hd, hb, h1, h2, h3⟩ := h
  obtain ⟨u', r1, r2⟩ := hr D hrep
  have hroom : room ≤ 1000 := hW.h.hroom.2
  have hok := runN_ok kind room hk hroom 20 N D _ hD (DOp.new_ok kind room N what x hw)
  refine (run_any (DOp.new what x) hW hk hD (DOp.new_ok kind room N what x hw) hN).mono ?_
  rintro e w1 ⟨rfl, hw1⟩
  refine ⟨by rw [prog_tells, r1], u', ⟨_, hw1.rest, hok.2, r2⟩, hd.only hw1.f (by simp; omega), below_only4 hb (Nat.le_refl _) hw1.f h3.1 h1.1 h1.2.1 h1.2.2, h1, h2⟩

set_option maxRecDepth 100000 in
set_option maxHeartbeats 2000000 in
theorem dequeWraps_core (kind room times : Nat) (w : World) (h1 : kind ≤ 255) (h2 : room ≤ 255) (h3 : times ≤ 255) : Calls Try.prog 7 #[.int .u8 kind, .int .u8 room, .int .u8 times] w fun e w' => e = .returned (.bool true) ∧ Below w.heap.size w w' := by
  obtain ⟨k, hk⟩ : ∃ k : Nat, (kind : Int) % 3 + 1 = k := ⟨kind % 3 + 1, by omega⟩
  obtain ⟨n, hn⟩ : ∃ n : Nat, (room : Int) % 6 + 1 = n := ⟨room % 6 + 1, by omega⟩
  have hk' : k = 1 ∨ k = 2 ∨ k = 3 := by omega
  have hn1 : 1 ≤ n := by omega
  have hn6 : n ≤ 6 := by omega
  obtain ⟨T, ht⟩ : ∃ T : Nat, (times : Int) % 100 = T := ⟨times % 100, by omega⟩
  have hT : T ≤ 99 := by omega
  have HK := Lib.hid hk'
  have hk1 : 1 ≤ k := by omega
  have hk3 : k ≤ 3 := by omega
  clear hk'
  go_enter Try.func7, Try.ntmps7
  go_wp2_with fail
  refine (new_ok 20 _ (by omega)).mono ?_
  rintro e w1 ⟨m, a, b, rfl, hm, h1, h2, h3, ho⟩
  have HB1 := Lib.hid ho.nil_below
  have C := dnew_live m a b (MemS.fresh 20) k (0 : Nat) n w1 hm (by omega) (by omega) (by omega)
  rw [fresh_tcode (by omega), if_pos rfl] at C
  have HC := Lib.hid C; clear C hm ho
  go_wp2_with fail
  refine HC.out.mono ?_
  rintro e w2 ⟨rfl, hm, ho⟩
  have HB2 := Lib.hid (below_only3 HB1.out (Nat.le_refl _) ho h1 h2 h3)
  have HM2 := Lib.hid hm
  clear hm ho HC
  unfold aggD
  go_wp2_with fail
  obtain ⟨d, hd⟩ : ∃ d, d = w2.heap.size := ⟨_, rfl⟩
  have hS := DS.begin (kind := k) (room := n) (d := d) HM2.out (by omega) (by omega) HB2.out ⟨h1, h2, h3⟩ HK.out hd rfl
  have HS := Lib.hid hS
  rw [← hd]
  clear hS hd HM2
  go_loopw [13, 14] (fun xv t wr => ∃ i x : Nat, i ≤ T ∧ x ≤ 6 * i ∧ xv = .int .i64 x ∧ t = .int .i64 i ∧ DS w wr m a b d k n (300 * i) [] 0) (fun _ t _ => T - (intOf t).toNat)
  case atStart => exact ⟨0, 0, by omega, by omega, rfl, rfl, HS.out⟩
  case round =>
    obtain ⟨i, x, hi, hx, rfl, rfl, hs⟩ := hrel
    clear HS
    have HS := Lib.hid hs; clear hs
    by_cases hlt : i < T
    · have hs0 : DS w wr m a b d k n (300 * i) (rngL x 0) 0 := HS.out
      clear HS
      have HS := Lib.hid hs0; clear hs0
      obtain ⟨wo, rfl⟩ : ∃ wo : World, wo = wr := ⟨_, rfl⟩
      go_wp2_with fail
      rw [ht]
      go_loopw [13, 16] (fun xv t wr => ∃ j : Nat, j ≤ n ∧ xv = .int .i64 (x + j : Nat) ∧ t = .int .i64 j ∧ DS w wr m a b d k n (300 * i + 20 * j) (rngL x j) j) (fun _ t _ => n - (intOf t).toNat)
      case atStart => exact ⟨0, by omega, rfl, rfl, HS.out⟩
      case round =>
        obtain ⟨j, hj, rfl, rfl, hs⟩ := hrel
        clear HS
        have HS := Lib.hid hs; clear hs
        by_cases hjn : j < n
        · skip
          obtain ⟨d0, d1, d2⟩ := HS.out.cells
          have C := Lib.hid (HS.out.push ((x + j + 1 : Nat) : Int) HK.out)
          go_wp2_with fail
          refine C.out.mono ?_
          rintro e wTx ⟨o, rfl, hs⟩
          have HO := Lib.hid hs; clear hs C d0 d1 d2
          have C := Lib.hid (HO.out.run HK.out (by omega) (by omega) (fun D hr => alone_push HK.out hn1 (by omega) hr (by rw [rngL_len]; omega)))
          go_wp2_with fail
          refine C.out.mono ?_
          rintro e wT ⟨rfl, hs⟩
          have HT := Lib.hid hs; clear hs C HO
          go_wp2_with fail
          go_roundw
          case rel => exact ⟨j + 1, by omega, by go_num, by go_num, by rw [rngL_succ]; exact HT.out.mono (by omega)⟩
          case measure => simp [intOf]; omega
        · obtain rfl : j = n := by omega
          obtain ⟨d0, d1, d2⟩ := HS.out.cells
          have C := Lib.hid (HS.out.push (99) HK.out)
          go_wp2_with fail
          refine C.out.mono ?_
          rintro e wTx ⟨o, rfl, hs⟩
          have HO := Lib.hid hs; clear hs C d0 d1 d2
          have C := Lib.hid (HO.out.run HK.out (by omega) (by omega) (fun D hr => alone_push_full HK.out hr (by rw [rngL_len]; omega)))
          go_wp2_with fail
          refine C.out.mono ?_
          rintro e wT ⟨rfl, hs⟩
          have HT := Lib.hid hs; clear hs C HO
          have hs0 : DS w wT m a b d k j (300 * i + 20 * j + 20) (wrapL k x j 0) j := by
            have e : wrapL k x j 0 = rngL x j := by unfold wrapL; split <;> simp
            rw [e]; exact HT.out
          clear HT HS
          have HS := Lib.hid hs0; clear hs0
          obtain ⟨wq, rfl⟩ : ∃ wq : World, wq = wr := ⟨_, rfl⟩
          go_wp2_with fail
          go_loopw [21] (fun t wr => ∃ q u : Nat, q ≤ j ∧ t = .int .i64 q ∧ DS w wr m a b d k j (300 * i + 20 * j + 20 + 20 * q) (wrapL k x j q) u) (fun t _ => j - (intOf t).toNat)
          case atStart => exact ⟨0, j, by omega, rfl, HS.out⟩
          case round =>
            obtain ⟨q, u, hq, rfl, hs⟩ := hrel
            clear HS
            have HS := Lib.hid hs; clear hs
            by_cases hqj : q < j
            · by_cases hk3' : k = 3
              · have hb2 : ((k : Int) == 3) = true := by simp; omega
                have hsn : wrapN k x j q = (x : Int) + 1 + q := by unfold wrapN; rw [if_pos hk3']; omega
                have HSN := Lib.hid hsn; have HK3 := Lib.hid hk3'; clear hsn hk3'
                obtain ⟨d0, d1, d2⟩ := HS.out.cells
                have C := Lib.hid (HS.out.pop HK.out)
                go_wp2_with fail
                refine C.out.mono ?_
                rintro e wTx ⟨o, rfl, hs⟩
                have HO := Lib.hid hs; clear hs C d0 d1 d2
                have C := Lib.hid (HO.out.runE HK.out (by omega) (by omega) (fun D hr => wraps_run HK.out hqj D hr))
                go_wp2_with fail
                refine C.out.mono ?_
                rintro e wT ⟨rfl, uT, hs⟩
                have HT := Lib.hid hs; clear hs C HO
                rw [HSN.out]
                go_wp2_with fail
                go_roundw
                case rel => exact ⟨q + 1, _, by omega, by go_num, HT.out.mono (by omega)⟩
                case measure => simp [intOf]; omega
              · have hb2 : ((k : Int) == 3) = false := by simp; omega
                have hsn : wrapN k x j q = ((x + j : Nat) : Int) - q := by unfold wrapN; rw [if_neg hk3']; omega
                have HSN := Lib.hid hsn; have HK3 := Lib.hid hk3'; clear hsn hk3'
                obtain ⟨d0, d1, d2⟩ := HS.out.cells
                have C := Lib.hid (HS.out.pop HK.out)
                go_wp2_with fail
                refine C.out.mono ?_
                rintro e wTx ⟨o, rfl, hs⟩
                have HO := Lib.hid hs; clear hs C d0 d1 d2
                have C := Lib.hid (HO.out.runE HK.out (by omega) (by omega) (fun D hr => wraps_run HK.out hqj D hr))
                go_wp2_with fail
                refine C.out.mono ?_
                rintro e wT ⟨rfl, uT, hs⟩
                have HT := Lib.hid hs; clear hs C HO
                rw [HSN.out]
                go_wp2_with fail
                go_roundw
                case rel => exact ⟨q + 1, _, by omega, by go_num, HT.out.mono (by omega)⟩
                case measure => simp [intOf]; omega
            · obtain rfl : q = j := by omega
              have hs := HS.out
              rw [show wrapL k x q q = [] by unfold wrapL; split <;> simp [rngL]] at hs
              clear HS
              have HS := Lib.hid hs; clear hs
              obtain ⟨d0, d1, d2⟩ := HS.out.cells
              have C := Lib.hid (HS.out.pop HK.out)
              go_wp2_with fail
              refine C.out.mono ?_
              rintro e wTx ⟨o, rfl, hs⟩
              have HO := Lib.hid hs; clear hs C d0 d1 d2
              have C := Lib.hid (HO.out.run HK.out (by omega) (by omega) (fun D hr => alone_pop_none HK.out hr))
              go_wp2_with fail
              refine C.out.mono ?_
              rintro e wT ⟨rfl, hs⟩
              have HT := Lib.hid hs; clear hs C HO
              obtain ⟨d0, d1, d2⟩ := HT.out.cells
              have C := Lib.hid (HT.out.steal HK.out)
              go_wp2_with fail
              refine C.out.mono ?_
              rintro e wUx ⟨o, rfl, hs⟩
              have HO := Lib.hid hs; clear hs C d0 d1 d2
              have C := Lib.hid (HO.out.run HK.out (by omega) (by omega) (fun D hr => alone_steal_none HK.out hr))
              go_wp2_with fail
              refine C.out.mono ?_
              rintro e wU ⟨rfl, hs⟩
              have HU := Lib.hid hs; clear hs C HO
              go_wp2_with fail
              go_roundw
              case rel => exact ⟨i + 1, x + q, by omega, by omega, rfl, by go_num, HU.out.mono (by omega)⟩
              case measure => simp [intOf]; omega
    · obtain rfl : i = T := by omega
      go_wp2_with fail
      refine (awake_any _).mono ?_
      rintro e w9 ⟨rfl, hb⟩
      have HB9 := Lib.hid (below_below HS.out.hb (Nat.le_refl _) hb)
      clear hb
      go_wp2_with fail
      go_ret
      exact ⟨rfl, HB9.out⟩

theorem dequeWraps_walk (kind room many : Int) (w : World) (h1 : 0 ≤ kind ∧ kind ≤ 255) (h2 : 0 ≤ room ∧ room ≤ 255) (h3 : 0 ≤ many ∧ many ≤ 255) : Calls Try.prog 7 #[.int .u8 kind, .int .u8 room, .int .u8 many] w fun e w' => e = .returned (.bool true) ∧ Below w.heap.size w w' := by
  obtain ⟨i, rfl⟩ : ∃ i : Nat, kind = i := ⟨kind.toNat, by omega⟩
  obtain ⟨j, rfl⟩ : ∃ j : Nat, room = j := ⟨room.toNat, by omega⟩
  obtain ⟨k, rfl⟩ : ∃ k : Nat, many = k := ⟨many.toNat, by omega⟩
  exact dequeWraps_core i j k w (by omega) (by omega) (by omega)

end Go.Proofs.Ytlogmfpnjpamgaa
