/- Layer 9: what the chapter's example says (awake). -/
import Derived.Test.YtlogmfpnjpamgaaDeqR
open Go Go.RowKit
namespace Go.Proofs.Ytlogmfpnjpamgaa

/-- The example's loop over x. -/
structure AwX (w wr : World) (m a b d k x : Nat) : Prop where
  hm : HM wr m a b 0 4 (awD k x)
  hd : Blk wr d [.int .i64 k, .int .i64 0, .int .i64 4] 27
  hb : Below w.heap.size w wr

theorem AwX.next {w wr w3 w4 : World} {m a b d k x o : Nat} {S : OpD} {D : Dq} (h : AwX w wr m a b d k x) (hmd : m < d ∧ a < d ∧ b < d) (hB : w.heap.size ≤ m ∧ w.heap.size ≤ a ∧ w.heap.size ≤ b) (hso : wr.heap.size ≤ o) (ho : Only [] wr w3) (hw : HW w3 w4 o m a b S D) (h1 : S.base = 0) (h2 : S.room = 4) (h3 : D = awD k (x + 1)) : AwX w w4 m a b d k (x + 1) := by
  subst h3
  have hdl := h.hd.lt
  have hs := h.hb.size
  have hr := hw.rest
  rw [h1, h2] at hr
  exact ⟨hr, (h.hd.only ho (by simp)).only hw.f (by simp; omega), below_only4 (below_only h.hb (Nat.le_refl _) ho (by simp)) (Nat.le_refl _) hw.f (by omega) (by omega) (by omega) (by omega)⟩

theorem awD_step (k x : Nat) (h : x = 5 ∨ x = 6) : (DOp.runN k 4 9 (awD k x) (DOp.new 0 x)).2 = awD k (x + 1) := by
  rcases h with rfl | rfl <;> rfl

theorem awD_pop (k : Nat) (h : k = 1 ∨ k = 2 ∨ k = 3) : (((DOp.runN k 4 9 (awD k 7) (DOp.new 1 0)).1).prog k 0 4).tells = .tuple #[.int .i64 (if k = 3 then 5 else 6), .int .i64 0] := by
  rcases h with rfl | rfl | rfl <;> kernel_rfl

set_option maxRecDepth 100000 in
set_option maxHeartbeats 1000000 in
theorem awake_any (w : World) : Calls Try.prog 13 #[] w fun e w' => e = .returned (.bool true) ∧ Below w.heap.size w w' := by
  go_enter Try.func13, Try.ntmps13
  go_wp2_with fail
  go_loopw [1] (fun t wr => ∃ k : Nat, 1 ≤ k ∧ k ≤ 4 ∧ t = .int .i64 k ∧ Below w.heap.size w wr) (fun t _ => 4 - (intOf t).toNat)
  case atStart => exact ⟨1, by omega, by omega, rfl, Below.refl _ _⟩
  case round =>
    obtain ⟨k, hk1, hk4, rfl, hb⟩ := hrel
    have HB := Lib.hid hb; clear hb
    by_cases hk : k ≤ 3
    · have hk' : k = 1 ∨ k = 2 ∨ k = 3 := by omega
      have HK := Lib.hid hk'; clear hk'
      go_wp2_with fail
      refine (new_ok 10 _ (by omega)).mono ?_
      rintro e w1 ⟨m, a, b, rfl, hm, h1, h2, h3, ho⟩
      have hB1 := below_only HB.out (Nat.le_refl _) ho (by simp)
      have hsz := HB.out.size
      have HM1 := Lib.hid hm; have HB1 := Lib.hid hB1; clear hm ho hB1
      have C := dnew_live m a b (MemS.fresh 10) k (0 : Nat) 4 w1 HM1.out (by omega) (by omega) (by omega)
      rw [fresh_tcode (by omega), if_pos rfl] at C
      have HC := Lib.hid C; clear C
      go_wp2_with fail
      refine HC.out.mono ?_
      rintro e w2 ⟨rfl, hm, ho⟩
      have HM2 := Lib.hid (HM.fresh (room := 4) hm (by omega) (by omega) (by omega))
      have HB2 := Lib.hid (below_only3 HB1.out (Nat.le_refl _) ho (by omega) (by omega) (by omega)); clear hm ho HM1 HC
      unfold aggD
      go_wp2_with fail
      obtain ⟨d, hd⟩ : ∃ d, d = w2.heap.size := ⟨_, rfl⟩
      have hdb : Blk (w2.alloc (.cells #[.int .i64 k, .int .i64 0, .int .i64 4] 27)) d [.int .i64 k, .int .i64 0, .int .i64 4] 27 := newBlk _ _ _ _ hd
      have hsz2 := HB2.out.size
      have hmd : m < d ∧ a < d ∧ b < d := by have := HM2.out.lt; omega
      have hdB : w.heap.size ≤ d := by omega
      have HX : Hid (AwX w (w2.alloc (.cells #[.int .i64 k, .int .i64 0, .int .i64 4] 27)) m a b d k 5) := Lib.hid ⟨HM2.out.only0 ((Only.refl _ _).alloc _), hdb, HB2.out.alloc HB2.out.size _⟩
      rw [← hd]
      clear hdb hd
      go_loopw [6] (fun t wr => ∃ x : Nat, 5 ≤ x ∧ x ≤ 7 ∧ t = .int .i64 x ∧ AwX w wr m a b d k x) (fun t _ => 7 - (intOf t).toNat)
      case atStart => exact ⟨5, by omega, by omega, rfl, HX.out⟩
      case round =>
        obtain ⟨x, hx5, hx7, rfl, hx⟩ := hrel
        clear HX
        by_cases hx6 : x ≤ 6
        · have d0 := hx.hd.cell 0; have d1 := hx.hd.cell 1; have d2 := hx.hd.cell 2
          simp at d0 d1 d2
          have C : Calls Try.prog 19 #[.agg #[.int .i64 k, .int .i64 0, .int .i64 4], .int .i64 x] wr (NewD ((DOp.new 0 x).prog k 0 4) wr) := dpush_any (kind := k) (base := 0) (room := 4) x wr HK.out
          have HC := Lib.hid C; have HX := Lib.hid hx; clear C hx
          go_wp2_with fail
          refine HC.out.mono ?_
          rintro e w3 ⟨o, rfl, hbo, hso, ho⟩
          have H3 := Lib.hid (HM.begin (S := (DOp.new 0 x).prog k 0 4) HX.out.hm hbo hso ho)
          have HO3 := Lib.hid ho
          clear hbo ho HC d0 d1 d2
          have HR0 : Hid (RunRel 9 w3 w3 o m a b k 0 4 20 (awD k x) (DOp.new 0 x) 0) := Lib.hid ⟨_, _, H3.out, awD_ok k x HK.out, DOp.new_ok _ _ _ _ _ (by omega), rfl⟩
          clear H3
          obtain ⟨wo, rfl⟩ : ∃ wo : World, wo = wr := ⟨_, rfl⟩
          go_wp2_with fail
          go_loopw [8] (fun t wr => ∃ i : Nat, i ≤ 9 ∧ t = .int .i64 i ∧ RunRel 9 w3 wr o m a b k 0 4 20 (awD k x) (DOp.new 0 x) i) (fun t _ => 9 - (intOf t).toNat)
          case atStart => exact ⟨0, by omega, rfl, HR0.out⟩
          case round =>
            obtain ⟨i, hi, rfl, ⟨s', D', hh, hD', ho', he'⟩⟩ := hrel
            clear HR0
            by_cases hlt : i < 9
            · have C := dmove_any s' hh HK.out hD' ho' (by omega)
              obtain ⟨n, hn⟩ : ∃ n, 9 - i = n + 1 := ⟨8 - i, by omega⟩
              have hok := step_ok k 4 (20 + i) D' s' HK.out (by omega) hD' ho'
              rw [hn] at he'
              by_cases hend : (s'.step k 4 D').1.ended = true
              · rw [hend] at C
                rw [runN_ended hend] at he'
                have HC := Lib.hid C; have HR := Lib.hid he'; clear C hend he' hh hD' ho' hok hn
                go_wp2_with fail
                refine HC.out.mono ?_
                rintro e w4 ⟨rfl, hw4⟩
                have HW4 := Lib.hid hw4; clear hw4
                go_wp2_with fail
                go_roundw
                case rel => exact ⟨x + 1, by omega, by omega, by go_num, HX.out.next hmd (by omega) hso HO3.out HW4.out rfl rfl (by rw [HR.out, awD_step k x (by omega)])⟩
                case measure => simp [intOf]; omega
              · have hend := eq_false_of_ne_true hend
                rw [hend] at C
                rw [runN_goes hend] at he'
                have HC := Lib.hid C; have HR := Lib.hid he'; have HO := Lib.hid hok; clear C hend he' hh hD' ho' hok
                go_wp2_with fail
                refine HC.out.mono ?_
                rintro e w4 ⟨rfl, hw4⟩
                have HW4 := Lib.hid hw4; clear hw4
                go_wp2_with fail
                go_roundw
                case rel =>
                  refine ⟨i + 1, by omega, by go_num, ⟨_, _, HW4.out, HO.out.2, HO.out.1, ?_⟩⟩
                  rw [show 9 - (i + 1) = n by omega]
                  exact HR.out
                case measure => simp [intOf]; omega
            · obtain rfl : i = 9 := by omega
              rw [show 9 - 9 = 0 from rfl, DOp.runN] at he'
              have HR := Lib.hid he'
              have HW4 := Lib.hid hh; clear he' hh hD' ho'
              go_wp2_with fail
              go_roundw
              case rel => exact ⟨x + 1, by omega, by omega, by go_num, HX.out.next hmd (by omega) hso HO3.out HW4.out rfl rfl (by have := congrArg Prod.snd HR.out; rw [← awD_step k x (by omega), ← this])⟩
              case measure => simp [intOf]; omega
        · obtain rfl : x = 7 := by omega
          have d0 := hx.hd.cell 0; have d1 := hx.hd.cell 1; have d2 := hx.hd.cell 2
          simp at d0 d1 d2
          have C : Calls Try.prog 20 #[.agg #[.int .i64 k, .int .i64 0, .int .i64 4]] wr (NewD ((DOp.new 1 0).prog k 0 4) wr) := dpop_any (kind := k) (base := 0) (room := 4) wr HK.out
          have HC := Lib.hid C; have HX := Lib.hid hx; clear C hx
          go_wp2_with fail
          refine HC.out.mono ?_
          rintro e w3 ⟨o, rfl, hbo, hso, ho⟩
          have H3 := Lib.hid (HM.begin (S := (DOp.new 1 0).prog k 0 4) HX.out.hm hbo hso ho)
          have HO3 := Lib.hid ho
          clear hbo ho HC d0 d1 d2
          have HR0 : Hid (RunRel 9 w3 w3 o m a b k 0 4 20 (awD k 7) (DOp.new 1 0) 0) := Lib.hid ⟨_, _, H3.out, awD_ok k 7 HK.out, DOp.new_ok _ _ _ _ _ (by omega), rfl⟩
          clear H3
          obtain ⟨wo, rfl⟩ : ∃ wo : World, wo = wr := ⟨_, rfl⟩
          go_wp2_with fail
          go_loopw [10] (fun t wr => ∃ i : Nat, i ≤ 9 ∧ t = .int .i64 i ∧ RunRel 9 w3 wr o m a b k 0 4 20 (awD k 7) (DOp.new 1 0) i) (fun t _ => 9 - (intOf t).toNat)
          case atStart => exact ⟨0, by omega, rfl, HR0.out⟩
          case round =>
            obtain ⟨i, hi, rfl, ⟨s', D', hh, hD', ho', he'⟩⟩ := hrel
            clear HR0
            by_cases hlt : i < 9
            · have C := dmove_any s' hh HK.out hD' ho' (by omega)
              obtain ⟨n, hn⟩ : ∃ n, 9 - i = n + 1 := ⟨8 - i, by omega⟩
              have hok := step_ok k 4 (20 + i) D' s' HK.out (by omega) hD' ho'
              rw [hn] at he'
              by_cases hend : (s'.step k 4 D').1.ended = true
              · rw [hend] at C
                rw [runN_ended hend] at he'
                have HC := Lib.hid C; have HR := Lib.hid he'; clear C hend he' hh hD' ho' hok hn
                go_wp2_with fail
                refine HC.out.mono ?_
                rintro e w4 ⟨rfl, hw4⟩
                have HW4 := Lib.hid hw4; clear hw4 HC
                have C := dend_op HW4.out
                rw [HR.out] at C
                rw [awD_pop k HK.out] at C
                have HB5 := Lib.hid (fun (w5 : World) (hw : Only [o, m, a, b] w3 w5) => below_only4 (below_only HX.out.hb (Nat.le_refl _) HO3.out (by simp)) (Nat.le_refl _) hw (by have := HX.out.hb.size; omega) (by omega) (by omega) (by omega))
                clear HW4 HR
                by_cases hk3 : k = 3
                · subst hk3
                  have HC := Lib.hid C; clear C
                  go_wp2_with fail
                  refine HC.out.mono ?_
                  rintro e w5 ⟨rfl, hw5⟩
                  have HW5 := Lib.hid hw5; clear hw5
                  go_wp2_with fail
                  go_roundw
                  case rel => exact ⟨3 + 1, by omega, by omega, rfl, HB5.out _ HW5.out.f⟩
                  case measure => simp [intOf]
                · rw [if_neg hk3] at C
                  have hb1 : ((k : Int) == 3) = false := by simp; omega
                  have hb2 : ((k : Int) != 3) = true := by simp; omega
                  have HC := Lib.hid C; clear C
                  go_wp2_with fail
                  refine HC.out.mono ?_
                  rintro e w5 ⟨rfl, hw5⟩
                  have HW5 := Lib.hid hw5; clear hw5
                  go_wp2_with fail
                  go_roundw
                  case rel => exact ⟨k + 1, by omega, by omega, by go_num, HB5.out _ HW5.out.f⟩
                  case measure => simp [intOf]; omega
              · have hend := eq_false_of_ne_true hend
                rw [hend] at C
                rw [runN_goes hend] at he'
                have HC := Lib.hid C; have HR := Lib.hid he'; have HO := Lib.hid hok; clear C hend he' hh hD' ho' hok
                go_wp2_with fail
                refine HC.out.mono ?_
                rintro e w4 ⟨rfl, hw4⟩
                have HW4 := Lib.hid hw4; clear hw4
                go_wp2_with fail
                go_roundw
                case rel =>
                  refine ⟨i + 1, by omega, by go_num, ⟨_, _, HW4.out, HO.out.2, HO.out.1, ?_⟩⟩
                  rw [show 9 - (i + 1) = n by omega]
                  exact HR.out
                case measure => simp [intOf]; omega
            · obtain rfl : i = 9 := by omega
              rw [show 9 - 9 = 0 from rfl, DOp.runN] at he'
              have HR := Lib.hid he'
              have HW4 := Lib.hid hh; clear he' hh hD' ho'
              have C := dend_op HW4.out
              rw [show s' = (DOp.runN k 4 9 (awD k 7) (DOp.new 1 0)).1 from congrArg Prod.fst HR.out] at C
              rw [awD_pop k HK.out] at C
              have HB5 := Lib.hid (fun (w5 : World) (hw : Only [o, m, a, b] w3 w5) => below_only4 (below_only HX.out.hb (Nat.le_refl _) HO3.out (by simp)) (Nat.le_refl _) hw (by have := HX.out.hb.size; omega) (by omega) (by omega) (by omega))
              clear HW4 HR
              by_cases hk3 : k = 3
              · subst hk3
                have HC := Lib.hid C; clear C
                go_wp2_with fail
                refine HC.out.mono ?_
                rintro e w5 ⟨rfl, hw5⟩
                have HW5 := Lib.hid hw5; clear hw5
                go_wp2_with fail
                go_roundw
                case rel => exact ⟨3 + 1, by omega, by omega, rfl, HB5.out _ HW5.out.f⟩
                case measure => simp [intOf]
              · rw [if_neg hk3] at C
                have hb1 : ((k : Int) == 3) = false := by simp; omega
                have hb2 : ((k : Int) != 3) = true := by simp; omega
                have HC := Lib.hid C; clear C
                go_wp2_with fail
                refine HC.out.mono ?_
                rintro e w5 ⟨rfl, hw5⟩
                have HW5 := Lib.hid hw5; clear hw5
                go_wp2_with fail
                go_roundw
                case rel => exact ⟨k + 1, by omega, by omega, by go_num, HB5.out _ HW5.out.f⟩
                case measure => simp [intOf]; omega
    · obtain rfl : k = 4 := by omega
      go_wp2_with fail
      go_ret
      exact ⟨rfl, HB.out⟩

end Go.Proofs.Ytlogmfpnjpamgaa
