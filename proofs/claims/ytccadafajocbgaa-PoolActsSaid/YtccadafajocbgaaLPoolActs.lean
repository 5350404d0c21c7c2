/- PoolActs returns true, whatever is told. -/
import Derived.Test.YtccadafajocbgaaPoolRF
import Derived.Test.YtccadafajocbgaaPoolX
import Derived.Test.YtccadafajocbgaaLPoolKeeps
open Go Go.RowKit
set_option linter.unusedSimpArgs false
namespace Go.Proofs.Ytccadafajocbgaa

set_option maxRecDepth 100000 in
theorem poolActs_long (z : Int) (n cap : Nat) (a : Option Addr) (w : World) (h : 100 < n) : Calls Try.prog 3 #[.int .u32 z, .slice a n cap] w fun e w' => e = .returned (.bool true) ∧ Below w.heap.size w w' := by
  go_enter Try.func3, Try.ntmps3
  go_wp2_with fail
  go_ret
  exact ⟨rfl, Below.refl _ _⟩

set_option maxRecDepth 100000 in
set_option maxHeartbeats 2000000 in
theorem poolActs_short (z : Nat) (hz : z ≤ 4294967295) (n : Nat) (c : Nat → Nat → Int) (v : Value) (w : World) (hv : ArgRows w v n 3 (fun i j => .int .i64 (c i j))) (h : n ≤ 100) : Calls Try.prog 3 #[.int .u32 z, v] w fun e w' => e = .returned (.bool true) ∧ Below w.heap.size w w' := by
  obtain ⟨aa, cap, rfl, hv⟩ := hv
  have HV := Lib.hid hv; clear hv
  have hn0 : ¬ 100 < n := by omega
  have CS := Lib.hid (small_any z hz w)
  go_enter Try.func3, Try.ntmps3
  go_wp2_with fail
  refine CS.out.mono ?_
  rintro e w1 ⟨s, rfl, hu, ht⟩
  have HU := Lib.hid hu; have HT1 := Lib.hid ht
  clear hu ht CS
  unfold Shp.val shpV
  go_wp2_with fail
  obtain ⟨bx, hbx⟩ : ∃ bx, bx = w1.heap.size := ⟨_, rfl⟩
  obtain ⟨w2, hw2⟩ : ∃ w2, w2 = w1.alloc (.cells #[.int .i64 s.W, .int .i64 (s.z 0), .int .i64 (s.z 1), .int .i64 (s.z 2), .int .i64 (s.n 0), .int .i64 (s.n 1), .int .i64 (s.n 2)] 26) := ⟨_, rfl⟩
  have hX : Blk w2 bx s.cells 26 := by rw [hw2, hbx]; exact Blk.new w1 _ _
  have hT2 : Turn (fun _ => False) w w2 := by rw [hw2]; exact HT1.out.alloc _
  have hbxw : w.heap.size ≤ bx := by rw [hbx]; exact HT1.out.size
  rw [← hbx, ← hw2]
  have HX2 := Lib.hid hX; have HT2 := Lib.hid hT2
  clear hX hT2 hw2 hbx HT1
  have hR := HU.out.right
  have hN4 := Shp.off_eq s
  have hws := Shp.ws_le hR 3 (by omega)
  have CW := Lib.hid (fun v => rwords_any s hR v)
  have CO := Lib.hid (fun v => of_any s.W (s.z 0) (s.z 1) (s.z 2) (s.n 0) (s.n 1) (s.n 2) v)
  obtain ⟨ws, hwsq⟩ : ∃ ws, ws = s.ws 3 := ⟨_, rfl⟩
  have hws2 : ws ≤ 60000 := by
    rw [hwsq]
    have t : ∀ k, k < 3 → s.W * s.n k * s.z k ≤ 64 := fun k hk => by
      have h1 := HU.out.2.2 k hk
      have h2 : s.W * s.n k ≤ 4 * 4 := Nat.mul_le_mul HU.out.2.1 h1.2.2
      have h3 : s.W * s.n k * s.z k ≤ 4 * 4 * 4 := Nat.mul_le_mul h2 h1.2.1
      omega
    have := t 0 (by omega); have := t 1 (by omega); have := t 2 (by omega)
    simp only [Shp.ws]; omega
  have CN := Lib.hid (fun (v : World) (m a b : Nat) (hm : IsMem v m a b (MemS.fresh (ws + 7))) hB hb h3 => PG.new (w0 := w) (w := v) (X := fun k => k = bx) (m := m) (a := a) (b := b) 7 s hR (by omega) hm (by rw [MemS.fresh_words]; omega) hB hb h3)
  have CM := Lib.hid (fun v => new_mem (ws + 7) (by omega) v)
  have CR := Lib.hid (fun v hB => rnew_good s hR v w.heap.size hB)
  rw [← hwsq] at CW
  have HWS := Lib.hid hwsq
  unfold Shp.val shpV at CW CN CR
  simp only [Int.natCast_add] at CM
  unfold shpV at CO
  rw [show ((7 : Nat) : Int) = 7 from rfl] at CN CM
  obtain ⟨S0, hS0⟩ : ∃ S0, S0 = s.at_ 7 (s.off 3) := ⟨_, rfl⟩
  rw [← hS0] at CN
  have HL0 := Lib.hid (show LI S0 (MemS.fresh (ws + 7)) from by rw [hS0]; exact LI.fresh hR (by omega) (by omega))
  have HS0 := Lib.hid hS0
  clear hwsq hR hN4 hws hS0
  refine (CW.out _).mono ?_
  rintro e w3 ⟨rfl, ht⟩
  have HX3 := Lib.hid (HX2.out.turn ht (fun h => h)); have HT3 := Lib.hid (HT2.out.trans ht (fun _ h => .inl h)); clear ht
  go_wp2_with fail
  refine (CM.out _).mono ?_
  rintro e w4 ⟨m, a, b, rfl, hm, hbd, ht⟩
  have HX4 := Lib.hid (HX3.out.turn ht (fun h => h)); have HT4 := Lib.hid (HT3.out.trans ht (fun _ h => .inl h))
  have HM4 := Lib.hid hm
  have HBD := Lib.hid (show (w.heap.size ≤ m ∧ w.heap.size ≤ a ∧ w.heap.size ≤ b) ∧ bx ≠ m ∧ bx ≠ a ∧ bx ≠ b from by
    have h1 := HT3.out.size
    have h2 := HX3.out.lt
    omega)
  clear ht hm hbd
  obtain ⟨c0, c1, c2, c3, c4, c5, c6⟩ := shp_cells HX4.out
  go_wp2_with fail
  refine (CO.out _).mono ?_
  rintro e w5 ⟨rfl, ht⟩
  have HX5 := Lib.hid (HX4.out.turn ht (fun h => h)); have HT5 := Lib.hid (HT4.out.trans ht (fun _ h => .inl h))
  have HM5 := Lib.hid (HM4.out.turn ht (fun h => h) (fun h => h) (fun h => h))
  clear ht c0 c1 c2 c3 c4 c5 c6
  go_wp2_with fail
  refine (CN.out w5 m a b HM5.out (turn_below HT5.out) HBD.out.1 ⟨fun h => HBD.out.2.1 h.symm, fun h => HBD.out.2.2.1 h.symm, fun h => HBD.out.2.2.2 h.symm⟩ (fun k hk => by subst hk; exact HX5.out.lt)).mono ?_
  rintro e w6 ⟨p, rfl, hp, ht⟩
  have HX6 := Lib.hid (HX5.out.turn ht (fun h => h)); have HP6 := Lib.hid hp
  clear ht hp
  obtain ⟨c0, c1, c2, c3, c4, c5, c6⟩ := shp_cells HX6.out
  clear HX2 HT2 HX3 HT3 HX4 HT4 HM4 HX5 HT5 HM5 CN CM HBD
  go_wp2_with fail
  refine (CR.out _ HP6.out.below.size).mono ?_
  rintro e w7 ⟨L, rfl, hl, ht, hown⟩
  have HX7 := Lib.hid (HX6.out.turn ht (fun q => q))
  have HL7 := Lib.hid hl
  have HP7 := Lib.hid (show PG w (fun k => k = bx ∨ L.own s.W k) m a b p S0 (MemS.fresh (ws + 7)) w7 from HP6.out.law (ht.mono (fun _ q => q.elim)) (fun k hk => by subst hk; exact hbxw) (fun k hk => by
    rcases hk with rfl | hk
    · exact ⟨HX7.out.lt, .inl rfl⟩
    · exact ⟨(hl.lt hk).2, .inr (hown k hk)⟩))
  have HOX := Lib.hid (show ∀ k, (k = bx ∨ L.own s.W k) → w.heap.size ≤ k from fun k hk => by
    rcases hk with rfl | hk
    · exact hbxw
    · exact (hl.lt hk).1)
  clear hl ht hown HX6 HP6 c0 c1 c2 c3 c4 c5 c6 CR
  obtain ⟨c0, c1, c2, c3, c4, c5, c6⟩ := shp_cells HX7.out
  have HTs := Lib.hid (Turn.refl (fun _ => False) w7)
  go_wp2_with fail
  have HK7 := Lib.hid (show K2R w m a b p L.r s S0 S0 w7 from by
    have hl := HL7.out
    refine ⟨L, rfl, ⟨_, HP7.out.law (Turn.refl _ _) HOX.out (fun k hk => ⟨(hl.lt hk).2, .inl (.inr hk)⟩), HL0.out⟩, ?_, by rw [HS0.out]; rfl, by rw [HS0.out]; show ((List.range _).map _).length = _; simp, fun x hx => ?_⟩
    · have e1 : S0.row = s.rowAt (s.off 3) := by rw [HS0.out]; rfl
      have e2 : (false :: S0.blks.map PB.taken) = List.replicate (s.off 3 + 1) false := by
        rw [HS0.out, List.replicate_succ]
        congr 1
        show ((List.range _).map _).map _ = _
        rw [List.map_map]
        apply List.ext_getElem?
        intro i
        rw [List.getElem?_map, List.getElem?_replicate]
        by_cases hi : i < s.off 3
        · rw [List.getElem?_range hi, if_pos hi]; rfl
        · rw [List.getElem?_eq_none (by simp; omega), if_neg hi]; rfl
      rw [e1, e2]
      exact ⟨hl.top, hl.frees, hl.fars, hl.taken, fun k hk => RowK.of (hl.rows k hk).own, hl.dis, hl.rB⟩
    · rw [HS0.out] at hx ⊢
      have := Shp.at_there.1 hx
      rw [Shp.at_blk this.1 this.2]
      exact ⟨rfl, rfl⟩)
  obtain ⟨r, hr0⟩ : ∃ r, r = L.r := ⟨_, rfl⟩
  rw [← hr0] at HK7 ⊢
  have HRi := Lib.hid HU.out.right
  clear hr0 HX7 HL7 HP7 HOX HL0 HS0 c0 c1 c2 c3 c4 c5 c6 HTs HU HWS CW CO
  go_loopw [11] (fun t wr => ∃ (i : Nat) (S : PS), i ≤ n ∧ t = .int .i64 i ∧ K2R w m a b p r s S S wr) (fun t _ => n - (intOf t).toNat)
  case atStart => exact ⟨0, _, by omega, rfl, HK7.out⟩
  case round =>
    obtain ⟨i, S, hi, rfl, hkr⟩ := hrel
    have HQ := Lib.hid hkr
    clear hkr HK7
    by_cases hlt : i < n
    · obtain ⟨bb, off, rfl, hbb, hcell⟩ := HV.out (by omega)
      have hB := HQ.out.below
      have c0 := (hB.cell (p := ⟨bb, off + i * 3 + 0, none⟩) hbb).trans (hcell i hlt 0 (by omega))
      have c1 := (hB.cell (p := ⟨bb, off + i * 3 + 1, none⟩) hbb).trans (hcell i hlt 1 (by omega))
      have c2 := (hB.cell (p := ⟨bb, off + i * 3 + 2, none⟩) hbb).trans (hcell i hlt 2 (by omega))
      rw [Nat.add_zero] at c0
      clear hcell hB
      generalize c i 0 = y0 at c0
      generalize c i 1 = y1 at c1
      generalize c i 2 = y2 at c2
      obtain ⟨k, hk, hk3⟩ := wrapMod3 y0
      go_upto_region 13 with fail
      obtain ⟨bA, hbA⟩ : ∃ bA, bA = wr.heap.size := ⟨_, rfl⟩
      obtain ⟨w8, hw8⟩ : ∃ w8, w8 = wr.alloc (.cells #[.int .i64 y0, .int .i64 y1, .int .i64 y2] 41) := ⟨_, rfl⟩
      have hq := HQ.out.box [.int .i64 y0, .int .i64 y1, .int .i64 y2]
      rw [← hbA, ← hw8] at hq ⊢
      have HQ8 := Lib.hid hq
      have HOK := Lib.hid hq.ok
      clear hq hbA hw8 c0 c1 c2 HQ
      have hlA := HQ8.out.lt
      have a0 : w8.cell? ⟨bA, 0, none⟩ = some (.int .i64 y0) := by rw [HQ8.out.act]; rfl
      have a1 : w8.cell? ⟨bA, 1, none⟩ = some (.int .i64 y1) := by rw [HQ8.out.act]; rfl
      have a2 : w8.cell? ⟨bA, 2, none⟩ = some (.int .i64 y2) := by rw [HQ8.out.act]; rfl
      rcases (show k = 0 ∨ k = 1 ∨ k = 2 by omega) with rfl | rfl | rfl
      · have CP := Lib.hid (fun w1 (h : K2Q w m a b p r bA [.int .i64 y0, .int .i64 y1, .int .i64 y2] s S S w1) => h.takeP y1 y2)
        have CD := Lib.hid (fun w1 T (h : K2Q w m a b p r bA [.int .i64 y0, .int .i64 y1, .int .i64 y2] s T S w1) => h.takeD HRi.out HOK.out y1 y2)
        generalize S.takeS y1 y2 = S' at CP CD
        generalize (S.takeR y1 y2).1 = q1 at CP CD
        generalize (S.takeR y1 y2).2 = q2 at CP CD
        go_wp2_with fail
        refine (CP.out _ HQ8.out).mono ?_
        rintro e w9 ⟨rfl, hq⟩
        have HQ9 := Lib.hid hq
        clear hq a0 a1 a2 HQ8
        have a1 : w9.cell? ⟨bA, 1, none⟩ = some (.int .i64 y1) := by rw [HQ9.out.act]; rfl
        have a2 : w9.cell? ⟨bA, 2, none⟩ = some (.int .i64 y2) := by rw [HQ9.out.act]; rfl
        go_wp2_with fail
        refine (CD.out _ _ HQ9.out).mono ?_
        rintro e w10 ⟨rfl, hq⟩
        have HQ10 := Lib.hid hq.forget
        clear hq a1 a2 HQ9
        go_wp2_with fail
        refine (same10_any HQ10.out HRi.out).mono ?_
        rintro e w11 ⟨rfl, hq⟩
        have HQ11 := Lib.hid hq
        clear hq HQ10
        go_wp2_with fail
        go_roundw
        case rel => exact ⟨i + 1, _, by omega, by go_num, HQ11.out⟩
        case measure => simp [intOf]; omega
      · have CP := Lib.hid (fun w1 T (h : K2Q w m a b p r bA [.int .i64 y0, .int .i64 y1, .int .i64 y2] s S T w1) => h.giveP y1 y2)
        have CD := Lib.hid (fun w1 T (h : K2Q w m a b p r bA [.int .i64 y0, .int .i64 y1, .int .i64 y2] s T S w1) => h.giveD HRi.out HOK.out y1 y2)
        generalize S.giveS y1 y2 = S' at CP CD
        generalize S.giveR y1 y2 = q1 at CP CD
        go_wp2_with fail
        clear a0
        go_region_held3 (fun w' => w'.cell? ⟨bA, 1, none⟩ = some (.int .i64 y1) ∧ w'.cell? ⟨bA, 2, none⟩ = some (.int .i64 y2)) ((exact ⟨a1, a2⟩))
          (((first | (go_at_call 17; first | (refine (CP.out _ _ HD1.out).mono ?_; rintro e w5 ⟨rfl, hq⟩; have HFX := Lib.hid hq; clear hq a1 a2; have a1 := HFX.out.act 1; have a2 := HFX.out.act 2; simp only [List.getElem?_cons_succ, List.getElem?_cons_zero] at a1 a2) | (refine (CP.out _ _ HQ8.out.drew).mono ?_; rintro e w5 ⟨rfl, hq⟩; have HP1 := Lib.hid hq; clear hq a1 a2; have a1 := HP1.out.act 1; have a2 := HP1.out.act 2; simp only [List.getElem?_cons_succ, List.getElem?_cons_zero] at a1 a2)) | (go_at_call 18; first | (refine (CD.out _ _ HP1.out).mono ?_; rintro e w5 ⟨rfl, hq⟩; have HFX := Lib.hid hq; clear hq a1 a2; have a1 := HFX.out.act 1; have a2 := HFX.out.act 2; simp only [List.getElem?_cons_succ, List.getElem?_cons_zero] at a1 a2) | (refine (CD.out _ _ HQ8.out.drew).mono ?_; rintro e w5 ⟨rfl, hq⟩; have HD1 := Lib.hid hq; clear hq a1 a2; have a1 := HD1.out.act 1; have a2 := HD1.out.act 2; simp only [List.getElem?_cons_succ, List.getElem?_cons_zero] at a1 a2)))))
        all_goals go_wp2_with fail
        all_goals
          have HFY := Lib.hid HFX.out.forget
          clear HFX
          refine (same10_any HFY.out HRi.out).mono ?_
          rintro e w11 ⟨rfl, hq⟩
          have HQ11 := Lib.hid hq
          clear hq HFY
          go_wp2_with fail
          go_roundw
          case rel => exact ⟨i + 1, _, by omega, by go_num, HQ11.out⟩
          case measure => simp [intOf]; omega
      · have CP := Lib.hid (fun w1 T (h : K2Q w m a b p r bA [.int .i64 y0, .int .i64 y1, .int .i64 y2] s S T w1) => h.drainP y1)
        have CD := Lib.hid (fun w1 T (h : K2Q w m a b p r bA [.int .i64 y0, .int .i64 y1, .int .i64 y2] s T S w1) => h.drainD HRi.out HOK.out y1)
        generalize (S.drain y1).2 = S' at CP CD
        generalize (S.drain y1).1 = q1 at CP CD
        go_wp2_with fail
        clear a0
        go_region_held3 (fun w' => w'.cell? ⟨bA, 1, none⟩ = some (.int .i64 y1) ∧ w'.cell? ⟨bA, 2, none⟩ = some (.int .i64 y2)) ((exact ⟨a1, a2⟩))
          (((first | (go_at_call 19; first | (refine (CP.out _ _ HD1.out).mono ?_; rintro e w5 ⟨rfl, hq⟩; have HFX := Lib.hid hq; clear hq a1 a2; have a1 := HFX.out.act 1; have a2 := HFX.out.act 2; simp only [List.getElem?_cons_succ, List.getElem?_cons_zero] at a1 a2) | (refine (CP.out _ _ HQ8.out.drew).mono ?_; rintro e w5 ⟨rfl, hq⟩; have HP1 := Lib.hid hq; clear hq a1 a2; have a1 := HP1.out.act 1; have a2 := HP1.out.act 2; simp only [List.getElem?_cons_succ, List.getElem?_cons_zero] at a1 a2)) | (go_at_call 20; first | (refine (CD.out _ _ HP1.out).mono ?_; rintro e w5 ⟨rfl, hq⟩; have HFX := Lib.hid hq; clear hq a1 a2; have a1 := HFX.out.act 1; have a2 := HFX.out.act 2; simp only [List.getElem?_cons_succ, List.getElem?_cons_zero] at a1 a2) | (refine (CD.out _ _ HQ8.out.drew).mono ?_; rintro e w5 ⟨rfl, hq⟩; have HD1 := Lib.hid hq; clear hq a1 a2; have a1 := HD1.out.act 1; have a2 := HD1.out.act 2; simp only [List.getElem?_cons_succ, List.getElem?_cons_zero] at a1 a2)))))
        all_goals go_wp2_with fail
        all_goals
          have HFY := Lib.hid HFX.out.forget
          clear HFX
          refine (same10_any HFY.out HRi.out).mono ?_
          rintro e w11 ⟨rfl, hq⟩
          have HQ11 := Lib.hid hq
          clear hq HFY
          go_wp2_with fail
          go_roundw
          case rel => exact ⟨i + 1, _, by omega, by go_num, HQ11.out⟩
          case measure => simp [intOf]; omega
    · go_wp2_with fail
      refine (awake_any _).mono ?_
      rintro e w9 ⟨rfl, hb⟩
      have HB := Lib.hid (below_below HQ.out.below (Nat.le_refl _) hb); clear hb
      go_wp2_with fail
      go_ret
      exact ⟨rfl, HB.out⟩

theorem poolActs_walk (z : Int) (hz : (Lit.int .u32 z).wf = true) (n : Nat) (c : Nat → Nat → Int) (v : Value) (w : World) (hv : ArgRows w v n 3 (fun i j => .int .i64 (c i j))) : Calls Try.prog 3 #[.int .u32 z, v] w fun e w' => e = .returned (.bool true) ∧ Below w.heap.size w w' := by
  have hz := wf_u32 hz
  by_cases h : n ≤ 100
  · obtain ⟨y, rfl⟩ : ∃ y : Nat, z = y := ⟨z.toNat, by omega⟩
    exact poolActs_short y (by omega) n c v w hv h
  · obtain ⟨a, cap, rfl, _⟩ := hv
    exact poolActs_long _ _ _ _ _ (by omega)

end Go.Proofs.Ytccadafajocbgaa
