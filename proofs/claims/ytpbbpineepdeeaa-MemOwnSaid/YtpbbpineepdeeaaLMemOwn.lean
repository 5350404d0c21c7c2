/- MemOwn returns true, whatever the acts are: a step changes no other word than its own. -/
import Derived.Test.YtpbbpineepdeeaaMemF
import Derived.Test.YtpbbpineepdeeaaMemG
import Derived.Test.YtpbbpineepdeeaaArg2
open Go Go.RowKit
namespace Go.Proofs.Ytpbbpineepdeeaa

/-- A memory of 60 words, all live, that reads as ws; how many steps were counted is left open. -/
def LiveMem (w : World) (m a b : Nat) (ws : List Int) : Prop := ws.length = 60 ∧ ∃ t, IsMem w m a b ⟨ws, List.replicate 60 true, t⟩

theorem wrap64_small {x : Int} (h0 : 0 ≤ x) (h1 : x ≤ 1000000) : wrap64 x = x := by unfold wrap64; omega

theorem liveCode {ws : List Int} (h : ws.length = 60) (t : Int) {k : Nat} (hk : k < 60) : MemS.code ⟨ws, List.replicate 60 true, t⟩ k = 0 :=
  MemS.code_at (by show k < ws.length; omega) (by show (List.replicate 60 true).getD k false = true; rw [List.getD_eq_getElem?_getD, List.getElem?_replicate, if_pos hk]; rfl)

theorem liveLoad {w : World} {m a b : Nat} {ws : List Int} (h : LiveMem w m a b ws) (k : Nat) (hk : k < 60) :
    Calls Try.prog 13 #[.pointer (some ⟨m, 0, none⟩), .int .i64 k] w fun e w' => e = .returned (.tuple #[.int .i64 (ws.getD k 0), .int .i64 0]) ∧ LiveMem w' m a b ws ∧ Only [m, a, b] w w' := by
  obtain ⟨hl, t, hm⟩ := h
  refine (load_any m a b _ k w hm).mono ?_
  rintro e w' ⟨rfl, h1, h2⟩
  rw [MemS.load, if_pos (liveCode hl t hk)] at h1
  rw [MemS.word, if_pos (liveCode hl t hk), liveCode hl t hk, Int.toNat_natCast]
  exact ⟨rfl, ⟨hl, _, h1⟩, h2⟩

theorem liveStore {w : World} {m a b : Nat} {ws : List Int} (h : LiveMem w m a b ws) (k : Nat) (hk : k < 60) (n : Int) :
    Calls Try.prog 12 #[.pointer (some ⟨m, 0, none⟩), .int .i64 k, .int .i64 n] w fun e w' => e = .returned (.int .i64 0) ∧ (∃ x, LiveMem w' m a b (ws.set k x)) ∧ Only [m, a, b] w w' := by
  obtain ⟨hl, t, hm⟩ := h
  refine (store_any m a b _ k n w hm).mono ?_
  rintro e w' ⟨rfl, h1, h2⟩
  rw [MemS.store, if_pos (liveCode hl t hk)] at h1
  rw [liveCode hl t hk]
  exact ⟨rfl, ⟨n, by simpa using hl, _, by simpa [MemS.put, MemS.tick] using h1⟩, h2⟩

theorem liveSwap {w : World} {m a b : Nat} {ws : List Int} (h : LiveMem w m a b ws) (k : Nat) (hk : k < 60) (was n : Int) :
    Calls Try.prog 18 #[.pointer (some ⟨m, 0, none⟩), .int .i64 k, .int .i64 was, .int .i64 n] w fun e w' => (∃ x, e = .returned (.tuple #[.bool x, .int .i64 0])) ∧ (∃ x, LiveMem w' m a b (ws.set k x)) ∧ Only [m, a, b] w w' := by
  obtain ⟨hl, t, hm⟩ := h
  refine (swap_any m a b _ k was n w hm).mono ?_
  rintro e w' ⟨rfl, h1, h2⟩
  rw [MemS.swap, if_pos (liveCode hl t hk)] at h1
  rw [liveCode hl t hk]
  refine ⟨⟨_, rfl⟩, ?_, h2⟩
  by_cases hh : ((⟨ws, List.replicate 60 true, t⟩ : MemS).words.getD (k : Int).toNat 0 == was) = true
  · rw [if_pos hh] at h1
    exact ⟨n, by simpa using hl, _, by simpa [MemS.put, MemS.tick] using h1⟩
  · rw [if_neg hh] at h1
    refine ⟨ws.getD k 0, by simpa using hl, wrap64 (t + 1), ?_⟩
    have e : ws.set k (ws.getD k 0) = ws := by
      rw [List.getD_eq_getElem?_getD, List.getElem?_eq_getElem (by omega)]
      simp
    rw [e]
    exact h1

theorem liveAdd {w : World} {m a b : Nat} {ws : List Int} (h : LiveMem w m a b ws) (k : Nat) (hk : k < 60) (n : Int) :
    Calls Try.prog 16 #[.pointer (some ⟨m, 0, none⟩), .int .i64 k, .int .i64 n] w fun e w' => (∃ x, e = .returned (.tuple #[.int .i64 x, .int .i64 0])) ∧ (∃ x, LiveMem w' m a b (ws.set k x)) ∧ Only [m, a, b] w w' := by
  obtain ⟨hl, t, hm⟩ := h
  refine (add_any m a b _ k n w hm).mono ?_
  rintro e w' ⟨rfl, h1, h2⟩
  rw [MemS.add, if_pos (liveCode hl t hk)] at h1
  rw [liveCode hl t hk]
  exact ⟨⟨_, rfl⟩, ⟨_, by simpa using hl, _, by simpa [MemS.put, MemS.tick] using h1⟩, h2⟩

theorem wrapMod (y : Int) : ∃ k : Nat, (wrap64 (y.tmod 60 + 60)).tmod 60 = k ∧ k < 60 := by
  have h1 := Int.tmod_lt_of_pos y (b := 60) (by omega)
  have h2 := Int.lt_tmod_of_pos y (b := 60) (by omega)
  have e : wrap64 (y.tmod 60 + 60) = y.tmod 60 + 60 := wrap64_small (by omega) (by omega)
  rw [e]
  have h3 := Int.tmod_nonneg (a := y.tmod 60 + 60) 60 (by omega)
  have h4 := Int.tmod_lt_of_pos (y.tmod 60 + 60) (b := 60) (by omega)
  exact ⟨((y.tmod 60 + 60).tmod 60).toNat, by omega, by omega⟩

theorem wrapMod3 (y : Int) : ∃ k : Nat, (wrap64 (y.tmod 3 + 3)).tmod 3 = k ∧ k < 3 := by
  have h1 := Int.tmod_lt_of_pos y (b := 3) (by omega)
  have h2 := Int.lt_tmod_of_pos y (b := 3) (by omega)
  have e : wrap64 (y.tmod 3 + 3) = y.tmod 3 + 3 := wrap64_small (by omega) (by omega)
  rw [e]
  have h3 := Int.tmod_nonneg (a := y.tmod 3 + 3) 3 (by omega)
  have h4 := Int.tmod_lt_of_pos (y.tmod 3 + 3) (b := 3) (by omega)
  exact ⟨((y.tmod 3 + 3).tmod 3).toNat, by omega, by omega⟩

theorem memOwn_long (n cap : Nat) (a : Option Addr) (w : World) (h : 60 < n) : Calls Try.prog 6 #[.slice a n cap] w fun e w' => e = .returned (.bool true) ∧ Below w.heap.size w w' := by
  go_enter Try.func6, Try.ntmps6
  go_wp2_with fail
  go_ret
  exact ⟨rfl, Below.refl _ _⟩

set_option maxRecDepth 100000 in
set_option maxHeartbeats 4000000 in
theorem memOwn_short (n : Nat) (c : Nat → Nat → Int) (v : Value) (w : World) (hv : ArgRows w v n 5 (fun i j => .int .i64 (c i j))) (h : n ≤ 60) : Calls Try.prog 6 #[v] w fun e w' => e = .returned (.bool true) ∧ Below w.heap.size w w' := by
  obtain ⟨aa, cap, rfl, hv⟩ := hv
  have HV := Lib.hid hv; clear hv
  have H0 := Lib.hid (new_ok 60 w (by omega))
  have E1 : (MemS.fresh 60).tcode 0 60 true = 0 := by decide +kernel
  have F1 : (MemS.fresh 60).turn 0 60 true = ⟨List.replicate 60 0, List.replicate 60 true, 0⟩ := by kernel_rfl
  replace F1 := Lib.hid F1
  have hn0 : ¬ 60 < n := by omega
  go_enter Try.func6, Try.ntmps6
  go_wp2_with fail
  refine H0.out.mono ?_
  rintro e w1 ⟨m, a, b, rfl, hm, h1, h2, h3, ho⟩
  have HM1 := Lib.hid hm; have HB1 := Lib.hid ho.nil_below; clear hm ho
  go_wp2_with fail
  refine (live_any m a b _ _ _ _ HM1.out).mono ?_
  rintro e w2 ⟨rfl, hm, ho⟩
  rw [F1.out] at hm
  have HM2 := Lib.hid hm; have HB2 := Lib.hid (below_only3 HB1.out (Nat.le_refl _) ho h1 h2 h3); clear hm ho
  have HL2 := Lib.hid (show LiveMem w2 m a b (List.replicate 60 0) from ⟨by simp, _, HM2.out⟩)
  go_wp2_with fail
  go_loopw [5] (fun t wr => ∃ i : Nat, i ≤ n ∧ t = .int .i64 i ∧ (∃ ws, LiveMem wr m a b ws) ∧ Below w.heap.size w wr) (fun t _ => n - (intOf t).toNat)
  case atStart => exact ⟨0, by omega, rfl, ⟨_, HL2.out⟩, HB2.out⟩
  case round =>
    obtain ⟨i, hi, rfl, ⟨ws, hm⟩, hb⟩ := hrel
    have HM3 := Lib.hid hm; have HB3 := Lib.hid hb; clear hm hb
    by_cases hlt : i < n
    · obtain ⟨bb, off, rfl, hbb, hcell⟩ := HV.out (by omega)
      have c1 := (HB3.out.cell (p := ⟨bb, off + i * 5 + 1, none⟩) hbb).trans (hcell i hlt 1 (by omega))
      have HC := Lib.hid (hcell i hlt)
      have HBB := Lib.hid hbb
      clear hcell hbb
      obtain ⟨k, hk, hk60⟩ := wrapMod (c i 1)
      generalize c i 1 = y at c1 hk
      have HK := Lib.hid hk; clear hk
      obtain ⟨wo, rfl⟩ : ∃ wo : World, wo = wr := ⟨_, rfl⟩
      go_wp2_with fail
      rw [HK.out]
      have hsz := HB3.out.size
      have HNA := Lib.hid (show wo.heap.size ∉ [m, a, b] by
        obtain ⟨_, t, q⟩ := HM3.out
        have := q.top.lt; have := q.words.lt; have := q.live.lt
        simp; omega)
      go_loopw [8] (fun t wr => ∃ j : Nat, j ≤ 60 ∧ t = .int .i64 j ∧ LiveMem wr m a b ws ∧ (∃ xs : List Int, xs.length = 60 ∧ (∀ i, i < j → xs.getD i 0 = ws.getD i 0) ∧ Blk wr wo.heap.size (xs.map (.int .i64)) 40) ∧ Below w.heap.size w wr) (fun t _ => 60 - (intOf t).toNat)
      case atStart =>
        exact ⟨0, by omega, rfl, ⟨HM3.out.1, HM3.out.2.elim fun t h => ⟨t, h.alloc _⟩⟩, ⟨List.replicate 60 0, by simp, fun i h => by omega, Blk.new _ (List.map (Value.int .i64) (List.replicate 60 0)) 40⟩, HB3.out.alloc hsz _⟩
      case round =>
        obtain ⟨j, hj, rfl, hm, ⟨xs, hxl, hxs, hbk⟩, hb⟩ := hrel
        have HM4 := Lib.hid hm; have HB4 := Lib.hid hb; have HBK := Lib.hid hbk; have HXS := Lib.hid hxs; have HXL := Lib.hid hxl; clear hm hb hbk hxs hxl
        by_cases hlt2 : j < 60
        · go_wp2_with fail
          refine (liveLoad HM4.out _ hlt2).mono ?_
          rintro e w5 ⟨rfl, hm, ho⟩
          have hbk := HBK.out.only ho HNA.out
          have c5 := hbk.cell j
          rw [getElem?_map_int _ _ (by rw [HXL.out]; omega)] at c5
          have f5 := hbk.free j
          have HM5 := Lib.hid hm; have HB5 := Lib.hid (below_only3 HB4.out (Nat.le_refl _) ho h1 h2 h3); have HBK5 := Lib.hid hbk; clear hm ho hbk
          go_wp2_with fail
          go_roundw
          case rel =>
            refine ⟨j + 1, by omega, by go_num, ⟨HM5.out.1, HM5.out.2.elim fun t h => ⟨t, ?_⟩⟩, ⟨xs.set j (ws.getD j 0), by simpa using HXL.out, fun i hi2 => ?_, ?_⟩, HB5.out.setCell (by omega) _⟩
            · have hma := HNA.out
              simp at hma
              exact h.other (by show m ≠ wo.heap.size; omega) (by show a ≠ wo.heap.size; omega) (by show b ≠ wo.heap.size; omega) _
            · rw [List.getD_eq_getElem?_getD, List.getElem?_set]
              by_cases e : j = i
              · subst e; rw [if_pos rfl, if_pos (by rw [HXL.out]; omega)]; rfl
              · rw [if_neg e, ← List.getD_eq_getElem?_getD]; exact HXS.out i (by omega)
            · have := HBK5.out.set j (.int .i64 (ws.getD j 0))
              simpa [List.map_set] using this
          case measure => simp [intOf]; omega
        · obtain rfl : j = 60 := by omega
          have c0 := (HB4.out.cell (p := ⟨bb, off + i * 5 + 0, none⟩) HBB.out).trans (HC.out 0 (by omega))
          have c3 := (HB4.out.cell (p := ⟨bb, off + i * 5 + 3, none⟩) HBB.out).trans (HC.out 3 (by omega))
          have c4 := (HB4.out.cell (p := ⟨bb, off + i * 5 + 4, none⟩) HBB.out).trans (HC.out 4 (by omega))
          obtain ⟨q, hq, hq3⟩ := wrapMod3 (c i 0)
          generalize c i 0 = y0 at c0 hq
          generalize c i 3 = y3 at c3
          generalize c i 4 = y4 at c4
          rw [Nat.add_zero] at c0
          rcases (show q = 0 ∨ q = 1 ∨ q = 2 by omega) with rfl | rfl | rfl
          · have hq0 : ((wrap64 (y0.tmod 3 + 3)).tmod 3 == 0) = true := by rw [hq]; rfl
            have HQ := Lib.hid hq; clear hq
            go_wp2_with fail
            refine (liveStore HM4.out k hk60 _).mono ?_
            rintro e w6 ⟨rfl, ⟨x, hm⟩, ho⟩
            have HM6 := Lib.hid hm; have HB6 := Lib.hid (below_only3 HB4.out (Nat.le_refl _) ho h1 h2 h3); have HBK6 := Lib.hid (HBK.out.only ho HNA.out); clear hm ho
            go_wp2_with fail
            go_loopw [11] (fun t wr => ∃ j : Nat, j ≤ 60 ∧ t = .int .i64 j ∧ LiveMem wr m a b (ws.set k x) ∧ Blk wr wo.heap.size (xs.map (.int .i64)) 40 ∧ Below w.heap.size w wr) (fun t _ => 60 - (intOf t).toNat)
            case atStart => exact ⟨0, by omega, rfl, HM6.out, HBK6.out, HB6.out⟩
            case round =>
              obtain ⟨j, hj, rfl, hm, hbk, hb⟩ := hrel
              have HM7 := Lib.hid hm; have HB7 := Lib.hid hb; have HBK7 := Lib.hid hbk; clear hm hb hbk
              by_cases hlt3 : j < 60
              · go_wp2_with fail
                refine (liveLoad HM7.out _ hlt3).mono ?_
                rintro e w8 ⟨rfl, hm, ho⟩
                have hbk := HBK7.out.only ho HNA.out
                have c8 := hbk.cell j
                rw [getElem?_map_int _ _ (by rw [HXL.out]; omega), HXS.out j hlt3] at c8
                have HM8 := Lib.hid hm; have HB8 := Lib.hid (below_only3 HB7.out (Nat.le_refl _) ho h1 h2 h3); have HBK8 := Lib.hid hbk; clear hm ho hbk
                by_cases hjk : j = k
                · subst hjk
                  generalize (ws.set j x).getD j 0 = y1
                  generalize ws.getD j 0 = y2 at c8
                  go_wp2_with fail
                  go_roundw
                  case rel => exact ⟨j + 1, by omega, by go_num, HM8.out, HBK8.out, HB8.out⟩
                  case measure => simp [intOf]; omega
                · have e8 : (ws.set k x).getD j 0 = ws.getD j 0 := by
                    rw [List.getD_eq_getElem?_getD, List.getElem?_set_ne (by omega), ← List.getD_eq_getElem?_getD]
                  rw [e8]
                  generalize ws.getD j 0 = y2 at c8
                  have hjk2 : ((j : Int) == k) = false := by rw [beq_eq_false_iff_ne]; omega
                  clear e8
                  go_wp2_with fail
                  go_roundw
                  case rel => exact ⟨j + 1, by omega, by go_num, HM8.out, HBK8.out, HB8.out⟩
                  case measure => simp [intOf]; omega
              · go_wp2_with fail
                go_roundw
                case rel => exact ⟨i + 1, by omega, by go_num, ⟨_, HM7.out⟩, HB7.out⟩
                case measure => simp [intOf]; omega
          · have hq0 : ((wrap64 (y0.tmod 3 + 3)).tmod 3 == 0) = false := by rw [hq]; rfl
            have hq1 : ((wrap64 (y0.tmod 3 + 3)).tmod 3 == 1) = true := by rw [hq]; rfl
            have HQ := Lib.hid hq; clear hq
            go_wp2_with fail
            go_region_with (go_at_call 18; refine (liveSwap (w := wr.drew) ⟨HM4.out.1, HM4.out.2.elim fun t h => ⟨t, h.drew⟩⟩ k hk60 _ _).mono ?_; rintro e w6 ⟨⟨x1, rfl⟩, ⟨x, hm⟩, ho⟩; have HM6 := Lib.hid hm; have HB6 := Lib.hid (below_only3 HB4.out.drew (Nat.le_refl _) ho h1 h2 h3); have HBK6 := Lib.hid (HBK.out.drew.only ho HNA.out); clear hm ho)
            all_goals
              go_wp2_with fail
              go_loopw [11] (fun t wr => ∃ j : Nat, j ≤ 60 ∧ t = .int .i64 j ∧ LiveMem wr m a b (ws.set k x) ∧ Blk wr wo.heap.size (xs.map (.int .i64)) 40 ∧ Below w.heap.size w wr) (fun t _ => 60 - (intOf t).toNat)
              case atStart => exact ⟨0, by omega, rfl, HM6.out, HBK6.out, HB6.out⟩
              case round =>
                obtain ⟨j, hj, rfl, hm, hbk, hb⟩ := hrel
                have HM7 := Lib.hid hm; have HB7 := Lib.hid hb; have HBK7 := Lib.hid hbk; clear hm hb hbk
                by_cases hlt3 : j < 60
                · go_wp2_with fail
                  refine (liveLoad HM7.out _ hlt3).mono ?_
                  rintro e w8 ⟨rfl, hm, ho⟩
                  have hbk := HBK7.out.only ho HNA.out
                  have c8 := hbk.cell j
                  rw [getElem?_map_int _ _ (by rw [HXL.out]; omega), HXS.out j hlt3] at c8
                  have HM8 := Lib.hid hm; have HB8 := Lib.hid (below_only3 HB7.out (Nat.le_refl _) ho h1 h2 h3); have HBK8 := Lib.hid hbk; clear hm ho hbk
                  by_cases hjk : j = k
                  · subst hjk
                    generalize (ws.set j x).getD j 0 = y1
                    generalize ws.getD j 0 = y2 at c8
                    go_wp2_with fail
                    go_roundw
                    case rel => exact ⟨j + 1, by omega, by go_num, HM8.out, HBK8.out, HB8.out⟩
                    case measure => simp [intOf]; omega
                  · have e8 : (ws.set k x).getD j 0 = ws.getD j 0 := by
                      rw [List.getD_eq_getElem?_getD, List.getElem?_set_ne (by omega), ← List.getD_eq_getElem?_getD]
                    rw [e8]
                    generalize ws.getD j 0 = y2 at c8
                    have hjk2 : ((j : Int) == k) = false := by rw [beq_eq_false_iff_ne]; omega
                    clear e8
                    go_wp2_with fail
                    go_roundw
                    case rel => exact ⟨j + 1, by omega, by go_num, HM8.out, HBK8.out, HB8.out⟩
                    case measure => simp [intOf]; omega
                · go_wp2_with fail
                  go_roundw
                  case rel => exact ⟨i + 1, by omega, by go_num, ⟨_, HM7.out⟩, HB7.out⟩
                  case measure => simp [intOf]; omega
          · have hq0 : ((wrap64 (y0.tmod 3 + 3)).tmod 3 == 0) = false := by rw [hq]; rfl
            have hq1 : ((wrap64 (y0.tmod 3 + 3)).tmod 3 == 1) = false := by rw [hq]; rfl
            have hq2 : ((wrap64 (y0.tmod 3 + 3)).tmod 3 == 2) = true := by rw [hq]; rfl
            have HQ := Lib.hid hq; clear hq
            go_wp2_with fail
            refine (liveAdd HM4.out k hk60 _).mono ?_
            rintro e w6 ⟨⟨x1, rfl⟩, ⟨x, hm⟩, ho⟩
            have HM6 := Lib.hid hm; have HB6 := Lib.hid (below_only3 HB4.out (Nat.le_refl _) ho h1 h2 h3); have HBK6 := Lib.hid (HBK.out.only ho HNA.out); clear hm ho
            go_wp2_with fail
            go_loopw [11] (fun t wr => ∃ j : Nat, j ≤ 60 ∧ t = .int .i64 j ∧ LiveMem wr m a b (ws.set k x) ∧ Blk wr wo.heap.size (xs.map (.int .i64)) 40 ∧ Below w.heap.size w wr) (fun t _ => 60 - (intOf t).toNat)
            case atStart => exact ⟨0, by omega, rfl, HM6.out, HBK6.out, HB6.out⟩
            case round =>
              obtain ⟨j, hj, rfl, hm, hbk, hb⟩ := hrel
              have HM7 := Lib.hid hm; have HB7 := Lib.hid hb; have HBK7 := Lib.hid hbk; clear hm hb hbk
              by_cases hlt3 : j < 60
              · go_wp2_with fail
                refine (liveLoad HM7.out _ hlt3).mono ?_
                rintro e w8 ⟨rfl, hm, ho⟩
                have hbk := HBK7.out.only ho HNA.out
                have c8 := hbk.cell j
                rw [getElem?_map_int _ _ (by rw [HXL.out]; omega), HXS.out j hlt3] at c8
                have HM8 := Lib.hid hm; have HB8 := Lib.hid (below_only3 HB7.out (Nat.le_refl _) ho h1 h2 h3); have HBK8 := Lib.hid hbk; clear hm ho hbk
                by_cases hjk : j = k
                · subst hjk
                  generalize (ws.set j x).getD j 0 = y1
                  generalize ws.getD j 0 = y2 at c8
                  go_wp2_with fail
                  go_roundw
                  case rel => exact ⟨j + 1, by omega, by go_num, HM8.out, HBK8.out, HB8.out⟩
                  case measure => simp [intOf]; omega
                · have e8 : (ws.set k x).getD j 0 = ws.getD j 0 := by
                    rw [List.getD_eq_getElem?_getD, List.getElem?_set_ne (by omega), ← List.getD_eq_getElem?_getD]
                  rw [e8]
                  generalize ws.getD j 0 = y2 at c8
                  have hjk2 : ((j : Int) == k) = false := by rw [beq_eq_false_iff_ne]; omega
                  clear e8
                  go_wp2_with fail
                  go_roundw
                  case rel => exact ⟨j + 1, by omega, by go_num, HM8.out, HBK8.out, HB8.out⟩
                  case measure => simp [intOf]; omega
              · go_wp2_with fail
                go_roundw
                case rel => exact ⟨i + 1, by omega, by go_num, ⟨_, HM7.out⟩, HB7.out⟩
                case measure => simp [intOf]; omega
    · go_wp2_with fail
      go_wp2_with fail
      refine (awake_any _).mono ?_
      rintro e wz ⟨rfl, hb⟩
      have HBz := Lib.hid (below_below HB3.out (Nat.le_refl _) hb); clear hb
      go_wp2_with fail
      go_ret
      exact ⟨rfl, HBz.out⟩

theorem memOwn_walk (n : Nat) (c : Nat → Nat → Int) (v : Value) (w : World) (hv : ArgRows w v n 5 (fun i j => .int .i64 (c i j))) : Calls Try.prog 6 #[v] w fun e w' => e = .returned (.bool true) ∧ Below w.heap.size w w' := by
  by_cases h : n ≤ 60
  · exact memOwn_short n c v w hv h
  · obtain ⟨a, cap, rfl, _⟩ := hv
    exact memOwn_long _ _ _ _ (by omega)

end Go.Proofs.Ytpbbpineepdeeaa
