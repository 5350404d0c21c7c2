/- PoolRemote returns true, whatever is told. -/
import Derived.Test.YtccadafajocbgaaPoolT
import Derived.Test.YtccadafajocbgaaLaw
import Derived.Laws.ShiftsVarLaws
import Derived.Laws.BitsAllLaws
open Go Go.RowKit
set_option linter.unusedSimpArgs false
namespace Go.Proofs.Ytccadafajocbgaa

theorem bit_of (own j : Nat) (ho : own ≤ 4294967295) : ∃ v : Nat, v < 2 ∧ wrap64 (bits .and .u32 ((own : Int) / 2 ^ (j % 32)) 1) = v := by
  have hle : (own : Int) / 2 ^ (j % 32) ≤ own := by
    have e : ((2 : Int) ^ (j % 32)) = ((2 ^ (j % 32) : Nat) : Int) := by simp
    rw [e, ← Int.natCast_ediv]
    exact Int.ofNat_le.2 (Nat.div_le_self _ _)
  have hge : 0 ≤ (own : Int) / 2 ^ (j % 32) := Int.ediv_nonneg (by omega) (Int.pow_nonneg (by omega))
  rw [u32_and _ _ hge (by omega) (by omega) (by omega)]
  have h2 : ((own : Int) / 2 ^ (j % 32)).toNat &&& (1 : Int).toNat ≤ 1 := Nat.and_le_right
  refine ⟨((own : Int) / 2 ^ (j % 32)).toNat &&& (1 : Int).toNat, by omega, ?_⟩
  unfold wrap64
  omega

set_option maxRecDepth 100000 in
set_option maxHeartbeats 2000000 in
theorem poolRemote_nat (n own : Nat) (hn : n ≤ 255) (ho : own ≤ 4294967295) (w : World) : Calls Try.prog 5 #[.int .u8 n, .int .u32 own] w fun e w' => e = .returned (.bool true) ∧ Below w.heap.size w w' := by
  obtain ⟨k, hk⟩ : ∃ k : Nat, (n : Int) % 30 = k := ⟨n % 30, by omega⟩
  have hk29 : k ≤ 29 := by omega
  have hval : (shpR k).val = .agg #[.int .i64 2, .int .i64 2, .int .i64 1, .int .i64 1, .int .i64 k, .int .i64 0, .int .i64 0] := by
    unfold Shp.val shpV shpR; rfl
  have C0 := Lib.hid (new_ok 200 w (by omega))
  have CN := Lib.hid (fun (v : World) (m a b : Nat) (hm : IsMem v m a b (MemS.fresh 200)) hB hb => PL.new (w0 := w) (w := v) (X := noX) (m := m) (a := a) (b := b) 0 (shpR k) (shpR_right hk29) (by rw [shpR_ws]; omega) hm (by rw [shpR_ws]; omega) hB hb ⟨fun h => h, fun h => h, fun h => h⟩ (fun _ h => h.elim))
  rw [hval, show ((0 : Nat) : Int) = 0 from rfl] at CN
  obtain ⟨S0, hS0⟩ : ∃ S0, S0 = (shpR k).at_ 0 ((shpR k).off 3) := ⟨_, rfl⟩
  have hR0 : RT S0 k 0 := by rw [hS0]; exact RT.start hk29
  rw [← hS0] at CN
  have HR0 := Lib.hid hR0
  clear hR0 hS0 hval
  go_enter Try.func5, Try.ntmps5
  go_wp2_with fail
  refine C0.out.mono ?_
  rintro e w1 ⟨m, a, b, rfl, hm, h1, h2, h3, hoo⟩
  have HC := Lib.hid (CN.out w1 m a b hm hoo.nil_below ⟨h1, h2, h3⟩)
  clear hm hoo h1 h2 h3 CN C0
  go_wp2_with fail
  refine HC.out.mono ?_
  rintro e w2 ⟨p, rfl, hp, -⟩
  have HP := Lib.hid hp
  clear hp HC
  go_wp2_with fail
  go_loopw [10] (fun t wr => ∃ (i : Nat) (S : PS), i ≤ k ∧ t = .int .i64 i ∧ RT S k i ∧ PL w noX m a b p S wr) (fun t _ => k - (intOf t).toNat)
  case atStart => exact ⟨0, S0, by omega, rfl, HR0.out, HP.out⟩
  case round =>
    obtain ⟨i, S, hi, rfl, hr, hp⟩ := hrel
    have HR := Lib.hid hr; have HQ := Lib.hid hp
    clear hr hp HR0 HP
    by_cases hlt : i < k
    · have ht := HR.out.take hlt
      have HT := Lib.hid ht; clear ht
      go_wp2_with fail
      refine (HQ.out.take 0 0).mono ?_
      rintro e w3 ⟨rfl, hp, -⟩
      rw [HT.out.1]
      have HP3 := Lib.hid hp; clear hp
      go_wp2_with fail
      go_roundw
      case rel => exact ⟨i + 1, _, by omega, by go_num, HT.out.2, HP3.out⟩
      case measure => simp [intOf]; omega
    · obtain rfl : i = k := by omega
      have HG := Lib.hid HR.out.gives
      clear HR
      go_wp2_with fail
      obtain ⟨wo, rfl⟩ : ∃ x, x = wr := ⟨_, rfl⟩
      go_loopw [13, 14] (fun t13 t14 wr => ∃ (j o : Nat) (S : PS), j ≤ i ∧ o ≤ j ∧ t14 = .int .i64 j ∧ t13 = .int .i64 o ∧ RG S i j o ∧ PL w noX m a b p S wr) (fun _ t _ => i - (intOf t).toNat)
      case atStart => exact ⟨0, 0, S, by omega, by omega, rfl, rfl, HG.out, HQ.out⟩
      case round =>
        obtain ⟨j, o, S2, hj, hoj, rfl, rfl, hr, hp⟩ := hrel
        have HR2 := Lib.hid hr; have HQ2 := Lib.hid hp
        clear hr hp HQ HG
        by_cases hlt2 : j < i
        · obtain ⟨v, hv2, hv⟩ := bit_of own j ho
          have hg := HR2.out.give hlt2 v hv2
          have HG2 := Lib.hid hg; clear hg
          go_wp2_with fail
          refine (HQ2.out.give v ((j : Int) + 1)).mono ?_
          rintro e w4 ⟨rfl, hp, -⟩
          rw [HG2.out.1]
          have HP4 := Lib.hid hp; clear hp
          go_wp2_with fail
          refine (HP4.out.give v ((j : Int) + 1)).mono ?_
          rintro e w5 ⟨rfl, hp, -⟩
          rw [HG2.out.2.2.1]
          rw [HG2.out.2.2.2] at hp
          have HP5 := Lib.hid hp; clear hp HP4
          go_wp2_with fail
          go_roundw
          case rel => exact ⟨j + 1, o + v, _, by omega, by omega, by go_num, by go_num, HG2.out.2.1, HP5.out⟩
          case measure => simp [intOf]; omega
        · obtain rfl : j = i := by omega
          obtain ⟨t1, t2, t3, t4, -⟩ := HR2.out.tells
          have T1 := Lib.hid t1; have T2 := Lib.hid t2; have T3 := Lib.hid t3; have T4 := Lib.hid t4
          have D1 := Lib.hid HR2.out.drain1
          have D0 := Lib.hid D1.out.2.drain0
          have D2 := Lib.hid D0.out.2.drain0
          have E := Lib.hid D2.out.2.tells
          clear t1 t2 t3 t4
          go_wp2_with fail
          refine (HQ2.out.free 0 0).mono ?_
          rintro e w4 ⟨rfl, rfl⟩
          rw [T1.out]
          go_wp2_with fail
          refine (HQ2.out.remote 0).mono ?_
          rintro e w4 ⟨rfl, rfl⟩
          rw [T2.out]
          go_wp2_with fail
          refine (HQ2.out.remote 1).mono ?_
          rintro e w4 ⟨rfl, rfl⟩
          rw [T3.out]
          go_wp2_with fail
          refine HQ2.out.home.mono ?_
          rintro e w4 ⟨⟨r, rfl, hr⟩, hp, -⟩
          have hr' : r = decide (o = 0) := by
            rw [Bool.eq_iff_iff, decide_eq_true_iff, hr]; exact T4.out
          subst hr'
          have HP4 := Lib.hid hp
          clear hp hr
          have ez : ((o : Int) == 0) = decide (o = 0) := by
            rw [Bool.eq_iff_iff, decide_eq_true_iff, beq_iff_eq]; omega
          go_wp2_with fail
          refine (HP4.out.drain 1).mono ?_
          rintro e w5 ⟨rfl, hp, -⟩
          rw [D1.out.1]
          have HP5 := Lib.hid hp; clear hp
          go_wp2_with fail
          refine (HP5.out.drain 0).mono ?_
          rintro e w6 ⟨rfl, hp, -⟩
          rw [D0.out.1]
          have HP6 := Lib.hid hp; clear hp
          go_wp2_with fail
          refine (HP6.out.drain 0).mono ?_
          rintro e w7 ⟨rfl, hp, -⟩
          rw [D2.out.1]
          have HP7 := Lib.hid hp; clear hp
          go_wp2_with fail
          refine (HP7.out.free 0 0).mono ?_
          rintro e w8 ⟨rfl, rfl⟩
          rw [E.out.1, show (j : Int) - ((0 : Nat) : Int) = j by omega]
          go_wp2_with fail
          refine (HP7.out.free 1 0).mono ?_
          rintro e w8 ⟨rfl, rfl⟩
          rw [E.out.2.2.2.2]
          go_wp2_with fail
          refine HP7.out.home.mono ?_
          rintro e w8 ⟨⟨r, rfl, hr⟩, hp, -⟩
          obtain rfl : r = true := hr.2 (E.out.2.2.2.1.2 trivial)
          have HP8 := Lib.hid hp
          clear hp hr ez
          go_wp2_with fail
          refine (awake_any _).mono ?_
          rintro e w9 ⟨rfl, hb⟩
          have HB := Lib.hid (below_below HP8.out.below (Nat.le_refl _) hb); clear hb
          go_wp2_with fail
          go_ret
          exact ⟨rfl, HB.out⟩

theorem wf_u8 {n : Int} (h : (Lit.int .u8 n).wf = true) : 0 ≤ n ∧ n ≤ 255 := by
  simp [Lit.wf] at h
  have m1 : IntKind.u8.min = 0 := by decide
  have m2 : IntKind.u8.max = 255 := by decide
  rwa [m1, m2] at h
theorem wf_u32 {n : Int} (h : (Lit.int .u32 n).wf = true) : 0 ≤ n ∧ n ≤ 4294967295 := by
  simp [Lit.wf] at h
  have m1 : IntKind.u32.min = 0 := by decide
  have m2 : IntKind.u32.max = 4294967295 := by decide
  rwa [m1, m2] at h

theorem poolRemote_walk (n own : Int) (hn : (Lit.int .u8 n).wf = true) (ho : (Lit.int .u32 own).wf = true) (w : World) : Calls Try.prog 5 #[.int .u8 n, .int .u32 own] w fun e w' => e = .returned (.bool true) ∧ Below w.heap.size w w' := by
  have hn := wf_u8 hn
  have ho := wf_u32 ho
  obtain ⟨x, rfl⟩ : ∃ x : Nat, n = x := ⟨n.toNat, by omega⟩
  obtain ⟨y, rfl⟩ : ∃ y : Nat, own = y := ⟨own.toNat, by omega⟩
  exact poolRemote_nat x y (by omega) (by omega) w

end Go.Proofs.Ytccadafajocbgaa
