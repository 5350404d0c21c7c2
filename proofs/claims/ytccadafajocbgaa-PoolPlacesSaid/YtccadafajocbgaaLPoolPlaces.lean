/- PoolPlaces returns true, whatever is told. -/
import Derived.Test.YtccadafajocbgaaPoolZ
import Derived.Test.YtccadafajocbgaaLPoolApart
open Go Go.RowKit
set_option linter.unusedSimpArgs false
namespace Go.Proofs.Ytccadafajocbgaa

section
variable {w0 w w' : World} {X : Nat → Prop} {m a b p : Nat} {S S' : PS} {M M' : MemS}
theorem PG.live (h : PG w0 X m a b p S M w) (at_ n : Int) : Calls Try.prog 31 #[.pointer (some ⟨m, 0, none⟩), .int .i64 at_, .int .i64 n] w (PGPost w0 X m a b p S (M.turn at_ n true) w (.int .i64 (M.tcode at_ n true))) := by
  refine (live_any m a b M at_ n w h.mem).mono ?_
  rintro e w' ⟨rfl, hm, ho⟩
  exact ⟨rfl, h.only hm ho⟩
end

set_option maxRecDepth 100000 in
set_option maxHeartbeats 2000000 in
theorem poolPlaces_nat (z : Nat) (hz : z ≤ 4294967295) (x : Int) (w : World) : Calls Try.prog 7 #[.int .u32 z, .int .i64 x] w fun e w' => e = .returned (.bool true) ∧ Below w.heap.size w w' := by
  have CS := Lib.hid (small_any z hz w)
  go_enter Try.func7, Try.ntmps7
  go_wp2_with fail
  refine CS.out.mono ?_
  rintro e w1 ⟨s, rfl, hu, ht⟩
  have HU := Lib.hid hu; have HT1 := Lib.hid ht
  clear hu ht CS
  unfold Shp.val shpV
  go_wp2_with fail
  obtain ⟨bx, hbx⟩ : ∃ bx, bx = w1.heap.size := ⟨_, rfl⟩
  obtain ⟨w2, hw2⟩ : ∃ w2, w2 = w1.alloc (.cells #[.int .i64 s.W, .int .i64 (s.z 0), .int .i64 (s.z 1), .int .i64 (s.z 2), .int .i64 (s.n 0), .int .i64 (s.n 1), .int .i64 (s.n 2)] 26) := ⟨_, rfl⟩
  have hX : Blk w2 bx s.cells 26 := by rw [hw2, hbx]; exact Blk.new w1 _ _
  have hT2 : Turn (fun _ => False) w w2 := by rw [hw2]; exact HT1.out.alloc _
  have hbxw : w.heap.size ≤ bx := by rw [hbx]; exact HT1.out.size
  rw [← hbx, ← hw2]
  have HX2 := Lib.hid hX; have HT2 := Lib.hid hT2
  clear hX hT2 hw2 hbx HT1
  have hR := HU.out.right
  have hN4 := Shp.off_eq s
  have hws := Shp.ws_le hR 3 (by omega)
  have CW := Lib.hid (fun v => rwords_any s hR v)
  have CO := Lib.hid (fun v => of_any s.W (s.z 0) (s.z 1) (s.z 2) (s.n 0) (s.n 1) (s.n 2) v)
  obtain ⟨ws, hwsq⟩ : ∃ ws, ws = s.ws 3 := ⟨_, rfl⟩
  have hws2 : ws ≤ 60000 := by
    rw [hwsq]
    have t : ∀ k, k < 3 → s.W * s.n k * s.z k ≤ 64 := fun k hk => by
      have h1 := HU.out.2.2 k hk
      have h2 : s.W * s.n k ≤ 4 * 4 := Nat.mul_le_mul HU.out.2.1 h1.2.2
      have h3 : s.W * s.n k * s.z k ≤ 4 * 4 * 4 := Nat.mul_le_mul h2 h1.2.1
      omega
    have := t 0 (by omega); have := t 1 (by omega); have := t 2 (by omega)
    simp only [Shp.ws]; omega
  have CN := Lib.hid (fun (v : World) (m a b : Nat) (hm : IsMem v m a b (MemS.fresh (ws + 7))) hB hb h3 => PG.new (w0 := w) (w := v) (X := fun k => k = bx) (m := m) (a := a) (b := b) 7 s hR (by omega) hm (by rw [MemS.fresh_words]; omega) hB hb h3)
  have CM := Lib.hid (fun v => new_mem (ws + 7) (by omega) v)
  have CR := Lib.hid (fun v hB => rnew_good s hR v w.heap.size hB)
  have CP := Lib.hid (fun v => wordsP_right s hR v)
  rw [← hwsq] at CW CP
  rw [if_pos (show ws ≤ 65536 by omega)] at CP
  have HWS := Lib.hid hwsq
  unfold Shp.val shpV at CW CN CR CP
  simp only [Int.natCast_add] at CM
  unfold shpV at CO
  rw [show ((7 : Nat) : Int) = 7 from rfl] at CN CM
  obtain ⟨S0, hS0⟩ : ∃ S0, S0 = s.at_ 7 (s.off 3) := ⟨_, rfl⟩
  rw [← hS0] at CN
  have HL0 := Lib.hid (show LI S0 (MemS.fresh (ws + 7)) from by rw [hS0]; exact LI.fresh hR (by omega) (by omega))
  have HS0 := Lib.hid hS0
  clear hwsq hR hN4 hws hS0
  refine (CW.out _).mono ?_
  rintro e w3 ⟨rfl, ht⟩
  have HX3 := Lib.hid (HX2.out.turn ht (fun h => h)); have HT3 := Lib.hid (HT2.out.trans ht (fun _ h => .inl h)); clear ht
  go_wp2_with fail
  refine (CM.out _).mono ?_
  rintro e w4 ⟨m, a, b, rfl, hm, hbd, ht⟩
  have HX4 := Lib.hid (HX3.out.turn ht (fun h => h)); have HT4 := Lib.hid (HT3.out.trans ht (fun _ h => .inl h))
  have HM4 := Lib.hid hm
  have HBD := Lib.hid (show (w.heap.size ≤ m ∧ w.heap.size ≤ a ∧ w.heap.size ≤ b) ∧ bx ≠ m ∧ bx ≠ a ∧ bx ≠ b from by
    have h1 := HT3.out.size
    have h2 := HX3.out.lt
    omega)
  clear ht hm hbd
  obtain ⟨c0, c1, c2, c3, c4, c5, c6⟩ := shp_cells HX4.out
  go_wp2_with fail
  refine (CO.out _).mono ?_
  rintro e w5 ⟨rfl, ht⟩
  have HX5 := Lib.hid (HX4.out.turn ht (fun h => h)); have HT5 := Lib.hid (HT4.out.trans ht (fun _ h => .inl h))
  have HM5 := Lib.hid (HM4.out.turn ht (fun h => h) (fun h => h) (fun h => h))
  clear ht c0 c1 c2 c3 c4 c5 c6
  go_wp2_with fail
  refine (CN.out w5 m a b HM5.out (turn_below HT5.out) HBD.out.1 ⟨fun h => HBD.out.2.1 h.symm, fun h => HBD.out.2.2.1 h.symm, fun h => HBD.out.2.2.2 h.symm⟩ (fun k hk => by subst hk; exact HX5.out.lt)).mono ?_
  rintro e w6 ⟨p, rfl, hp, ht⟩
  have HX6 := Lib.hid (HX5.out.turn ht (fun h => h)); have HP6 := Lib.hid hp
  clear ht hp
  obtain ⟨c0, c1, c2, c3, c4, c5, c6⟩ := shp_cells HX6.out
  clear HX2 HT2 HX3 HT3 HX4 HT4 HM4 HX5 HT5 HM5 CN CM HBD
  go_wp2_with fail
  refine (CR.out _ HP6.out.below.size).mono ?_
  rintro e w7 ⟨L, rfl, hl, ht, hown⟩
  have HX7 := Lib.hid (HX6.out.turn ht (fun q => q))
  have HL7 := Lib.hid hl
  have HP7 := Lib.hid (show PG w (fun k => k = bx ∨ L.own s.W k) m a b p S0 (MemS.fresh (ws + 7)) w7 from HP6.out.law (ht.mono (fun _ q => q.elim)) (fun k hk => by subst hk; exact hbxw) (fun k hk => by
    rcases hk with rfl | hk
    · exact ⟨HX7.out.lt, .inl rfl⟩
    · exact ⟨(hl.lt hk).2, .inr (hown k hk)⟩))
  have HOX := Lib.hid (show ∀ k, (k = bx ∨ L.own s.W k) → w.heap.size ≤ k from fun k hk => by
    rcases hk with rfl | hk
    · exact hbxw
    · exact (hl.lt hk).1)
  clear hl ht hown HX6 HP6 c0 c1 c2 c3 c4 c5 c6 CR
  obtain ⟨c0, c1, c2, c3, c4, c5, c6⟩ := shp_cells HX7.out
  have HTs := Lib.hid (Turn.refl (fun _ => False) w7)
  go_wp2_with fail
  go_region_held3 (fun w' => w'.cell? ⟨bx, 0, none⟩ = some (.int .i64 s.W) ∧ w'.cell? ⟨bx, 1, none⟩ = some (.int .i64 (s.z 0)) ∧ w'.cell? ⟨bx, 2, none⟩ = some (.int .i64 (s.z 1)) ∧ w'.cell? ⟨bx, 3, none⟩ = some (.int .i64 (s.z 2)) ∧ w'.cell? ⟨bx, 4, none⟩ = some (.int .i64 (s.n 0)) ∧ w'.cell? ⟨bx, 5, none⟩ = some (.int .i64 (s.n 1)) ∧ w'.cell? ⟨bx, 6, none⟩ = some (.int .i64 (s.n 2))) (((repeat' apply And.intro) <;> assumption))
    (((first | (go_at_call 13; refine (CO.out _).mono ?_; rintro e wx ⟨rfl, ht⟩) | (go_at_call 29; refine (CP.out _).mono ?_; rintro e wx ⟨rfl, ht⟩) | (go_at_call 11; refine (CW.out _).mono ?_; rintro e wx ⟨rfl, ht⟩)); have HTn := Lib.hid (Turn.trans (by first | exact HTn.out | exact HTs.out.drew | exact HTs.out) ht (fun _ h => .inl h)); clear ht c0 c1 c2 c3 c4 c5 c6; obtain ⟨c0, c1, c2, c3, c4, c5, c6⟩ := shp_cells (HX7.out.turn HTn.out (fun h => h))))
  have HP8 := Lib.hid (HP7.out.still HTn.out)
  have HL8 := Lib.hid (HL7.out.still HTn.out)
  have HX8 := Lib.hid (HX7.out.turn HTn.out (fun h => h))
  clear HX7 HP7 HL7 HTs c0 c1 c2 c3 c4 c5 c6
  have hR := HU.out.right
  have CWn := Lib.hid (fun v (h : RLies true v w.heap.size L s (s.rowAt (s.off 3)) (List.replicate (s.off 3 + 1) false)) (hx : ¬ (1 ≤ x ∧ x ≤ s.off 3)) => rwhere_none h hR (by simp) x hx)
  have CWa := Lib.hid (fun v (h : RLies true v w.heap.size L s (s.rowAt (s.off 3)) (List.replicate (s.off 3 + 1) false)) j (hj : j < s.off 3) => rwhere_at h hR (by simp) j hj)
  clear hR
  by_cases hx : 1 ≤ x ∧ x ≤ s.off 3
  · obtain ⟨j, rfl⟩ : ∃ j : Nat, x = (j : Int) + 1 := ⟨(x - 1).toNat, by omega⟩
    have hj : j < s.off 3 := by omega
    have hW : S0.whereV ((j : Int) + 1) = #[.int .i64 (((s.place 0 j).pos : Int) + 7), .int .i64 (s.place 0 j).size, .int .i64 (s.place 0 j).owner, .int .i64 (s.place 0 j).cls, .bool true] := by
      have hth : S0.there ((j : Int) + 1) := by rw [HS0.out]; exact Shp.at_there.2 hx
      rw [PS.whereV_there hth, HS0.out, Shp.at_blk hx.1 hx.2, show ((j : Int) + 1 - 1).toNat = j by omega]
      have e : (((s.place 7 j).pos : Nat) : Int) = ((s.place 0 j).pos : Int) + 7 := by unfold Shp.place; simp only []; omega
      rw [e]; rfl
    have HW := Lib.hid hW
    have hpo : (s.place 0 j).pos ≤ 60000 := by
      have := Shp.place_end (s := s) (base := 0) hj
      have := HWS.out; omega
    have HJ := Lib.hid hj
    clear hW hx hj
    go_wp2_with fail
    refine (HP8.out.where_ _).mono ?_
    rintro e w9 ⟨rfl, hp, ht⟩
    rw [HW.out]
    have HL9 := Lib.hid (HL8.out.turn ht (fun k hk q => q.1 (.inr hk)))
    have HX9 := Lib.hid (HX8.out.turn ht (fun q => q.1 (.inl rfl)))
    have HP9 := Lib.hid hp
    clear hp ht HP8 HL8 HX8
    go_wp2_with fail
    refine (CWa.out _ HL9.out j HJ.out).mono ?_
    rintro e w10 ⟨rfl, ht⟩
    have HP10 := Lib.hid (HP9.out.still ht)
    have HX10 := Lib.hid (HX9.out.turn ht (fun h => h))
    clear ht HP9 HX9 HL9 HW CWa CWn
    generalize (s.place 0 j).pos = po at hpo ⊢
    obtain ⟨c0, -⟩ := shp_cells HX10.out
    go_wp2_with fail
    have hW4 : s.W ≤ 4 := HU.out.2.1
    go_loopw [21] (fun t wr => ∃ (i : Nat) (S : PS) (M : MemS), i ≤ s.W ∧ t = .int .i64 i ∧ LI S M ∧ S.W = s.W ∧ PG w (fun k => k = bx ∨ L.own s.W k) m a b p S M wr ∧ Blk wr bx s.cells 26) (fun t _ => s.W - (intOf t).toNat)
    case atStart => exact ⟨0, S0, MemS.fresh (ws + 7), by omega, rfl, HL0.out, by rw [HS0.out]; rfl, HP10.out, HX10.out⟩
    case round =>
      obtain ⟨i, S, M, hi, rfl, hli, hSW, hp, hx⟩ := hrel
      have HL := Lib.hid hli; have HSW := Lib.hid hSW; have HP := Lib.hid hp; have HX := Lib.hid hx
      obtain ⟨c0, -⟩ := shp_cells hx
      clear hli hSW hp hx HP10 HX10 HL0 HS0
      by_cases hlt : i < s.W
      · have HLT := Lib.hid hlt
        go_wp2_with fail
        clear c0
        obtain ⟨wo, rfl⟩ : ∃ x, x = wr := ⟨_, rfl⟩
        try rw [show decide ((i : Int) < (s.W : Int)) = true from decide_eq_true (by omega)]
        go_loopw [22] (fun t wr => ∃ (k : Nat) (S : PS) (M : MemS), k ≤ 3 ∧ t = .int .i64 k ∧ LI S M ∧ S.W = s.W ∧ PG w (fun k => k = bx ∨ L.own s.W k) m a b p S M wr ∧ Blk wr bx s.cells 26) (fun t _ => 3 - (intOf t).toNat)
        case atStart => exact ⟨0, S, M, by omega, rfl, HL.out, HSW.out, HP.out, HX.out⟩
        case round =>
          obtain ⟨k, S1, M1, hk, rfl, hli, hSW, hp, hx⟩ := hrel
          have HL1 := Lib.hid hli; have HSW1 := Lib.hid hSW; have HP1 := Lib.hid hp; have HX1 := Lib.hid hx
          clear hli hSW hp hx HL HSW HP HX
          by_cases hlt2 : k < 3
          · go_wp2_with fail
            refine (HP1.out.take i k).mono ?_
            rintro e w11 ⟨rfl, hp, ht⟩
            have HX2 := Lib.hid (HX1.out.turn ht (fun q => q.1 (.inl rfl)))
            have h2 := HL1.out.take2 i k
            obtain ⟨T, hT⟩ : ∃ T, T = S1.take M1 i k := ⟨_, rfl⟩
            rw [← hT] at hp h2 ⊢
            clear hT
            obtain ⟨⟨g, q⟩, S2, M2⟩ := T
            simp only [] at hp h2 ⊢
            have HP2 := Lib.hid hp
            clear hp ht HP1 HX1 HL1
            rcases h2 with ⟨hq, hli, hSW⟩ | ⟨y, he, hli, hSW, hth, htk⟩
            · have hq0 : (q == 0) = false := by simpa using hq
              have HL2 := Lib.hid hli; have HSW2 := Lib.hid (hSW.trans HSW1.out)
              clear hli hSW hq HSW1
              go_wp2_with fail
              go_roundw
              case rel => exact ⟨k + 1, S2, M2, by omega, by go_num, HL2.out, HSW2.out, HP2.out, HX2.out⟩
              case measure => simp [intOf]; omega
            · injection he with e1 e2
              subst e1; subst e2
              have HL2 := Lib.hid hli; have HSW2 := Lib.hid (hSW.trans HSW1.out)
              have hwv := PS.whereV_there hth
              obtain ⟨pos, hpos⟩ : ∃ pos, pos = (S2.blk g).pos := ⟨_, rfl⟩
              obtain ⟨size, hsize⟩ : ∃ size, size = (S2.blk g).size := ⟨_, rfl⟩
              have h11 := hli.live11 hth htk
              have h0 := hli.code0 hth htk
              rw [← hpos, ← hsize] at h11 hwv
              rw [← hpos] at h0
              have H11 := Lib.hid h11; have H0 := Lib.hid h0; have HWV := Lib.hid hwv
              have HG2 := Lib.hid (fun (M : MemS) (h : LI S2 M) => show (S2.give M 0 g).1 = 0 ∧ LI (S2.give M 0 g).2.1 (S2.give M 0 g).2.2 ∧ (S2.give M 0 g).2.1.W = S2.W ∧ (S2.give M 0 g).2.2.code pos = 7 from by
                rw [hpos]; exact h.give2 (by rw [HSW2.out]; have := HU.out.right.1; omega) hth htk)
              clear h11 h0 hwv hpos hsize hli hSW hth htk HSW1
              go_wp2_with fail
              refine (HP2.out.where_ g).mono ?_
              rintro e w12 ⟨rfl, hp, ht⟩
              rw [HWV.out]
              have HX3 := Lib.hid (HX2.out.turn ht (fun q => q.1 (.inl rfl)))
              have HP3 := Lib.hid hp
              clear hp ht HP2 HX2 HWV
              go_wp2_with fail
              refine (HP3.out.live pos size).mono ?_
              rintro e w13 ⟨rfl, hp, ht⟩
              rw [H11.out]
              rw [MemS.turn_ne (by rw [H11.out]; decide)] at hp
              have HX4 := Lib.hid (HX3.out.turn ht (fun q => q.1 (.inl rfl)))
              have HP4 := Lib.hid hp
              clear hp ht HP3 HX3 H11
              go_wp2_with fail
              refine (HP4.out.store pos 5).mono ?_
              rintro e w14 ⟨rfl, hp, ht⟩
              rw [H0.out]
              have HX5 := Lib.hid (HX4.out.turn ht (fun q => q.1 (.inl rfl)))
              have HP5 := Lib.hid hp
              clear hp ht HP4 HX4 H0
              have HL3 := Lib.hid (HL2.out.store pos 5)
              obtain ⟨M3, hM3⟩ : ∃ M3, M3 = M2.store pos 5 := ⟨_, rfl⟩
              rw [← hM3] at HL3 HP5
              clear hM3 HL2
              go_wp2_with fail
              refine (HP5.out.give 0 g).mono ?_
              rintro e w15 ⟨rfl, hp, ht⟩
              have hg := HG2.out M3 HL3.out
              have HX6 := Lib.hid (HX5.out.turn ht (fun q => q.1 (.inl rfl)))
              obtain ⟨T, hT⟩ : ∃ T, T = S2.give M3 0 g := ⟨_, rfl⟩
              rw [← hT] at hp hg ⊢
              clear hT HG2
              obtain ⟨q, S4, M4⟩ := T
              simp only [] at hp hg ⊢
              obtain ⟨rfl, hli, hSW, h7⟩ := hg
              have HP6 := Lib.hid hp; have HL4 := Lib.hid hli; have HSW4 := Lib.hid (hSW.trans HSW2.out); have H7 := Lib.hid h7
              clear hp ht hli hSW h7 HP5 HX5 HL3 HSW2
              go_wp2_with fail
              refine (HP6.out.load pos).mono ?_
              rintro e w16 ⟨rfl, hp, ht⟩
              rw [H7.out]
              have HX7 := Lib.hid (HX6.out.turn ht (fun q => q.1 (.inl rfl)))
              have HP7 := Lib.hid hp
              clear hp ht HP6 HX6 H7
              go_wp2_with fail
              go_roundw
              case rel => exact ⟨k + 1, S4, _, by omega, by go_num, HL4.out.load _, HSW4.out, HP7.out, HX7.out⟩
              case measure => simp [intOf]; omega
          · go_wp2_with fail
            go_roundw
            case rel => exact ⟨i + 1, S1, M1, HLT.out, by go_num, HL1.out, HSW1.out, HP1.out, HX1.out⟩
            case measure => have := HLT.out; simp [intOf]; omega
      · go_wp2_with fail
        refine (awake_any _).mono ?_
        rintro e w9 ⟨rfl, hb⟩
        have HB := Lib.hid (below_below HP.out.below (Nat.le_refl _) hb); clear hb
        go_wp2_with fail
        go_ret
        exact ⟨rfl, HB.out⟩
  · have hW : S0.whereV x = #[.int .i64 0, .int .i64 0, .int .i64 0, .int .i64 0, .bool false] := by
      have hth : ¬ S0.there x := by rw [HS0.out]; exact fun q => hx (Shp.at_there.1 q)
      exact if_neg hth
    have hW2 : s.whereV x = #[.int .i64 0, .int .i64 0, .int .i64 0, .int .i64 0, .bool false] := if_neg hx
    have HW := Lib.hid hW; have HW2 := Lib.hid hW2; have HNX := Lib.hid hx
    clear hW hW2 hx
    go_wp2_with fail
    refine (HP8.out.where_ _).mono ?_
    rintro e w9 ⟨rfl, hp, ht⟩
    rw [HW.out]
    have HL9 := Lib.hid (HL8.out.turn ht (fun k hk q => q.1 (.inr hk)))
    have HX9 := Lib.hid (HX8.out.turn ht (fun q => q.1 (.inl rfl)))
    have HP9 := Lib.hid hp
    clear hp ht HP8 HL8 HX8
    go_wp2_with fail
    refine (CWn.out _ HL9.out HNX.out).mono ?_
    rintro e w10 ⟨rfl, ht⟩
    rw [HW2.out]
    have HP10 := Lib.hid (HP9.out.still ht)
    have HX10 := Lib.hid (HX9.out.turn ht (fun h => h))
    clear ht HP9 HX9 HL9 HW HW2 CWa CWn HNX
    obtain ⟨c0, -⟩ := shp_cells HX10.out
    go_wp2_with fail
    have hW4 : s.W ≤ 4 := HU.out.2.1
    go_loopw [21] (fun t wr => ∃ (i : Nat) (S : PS) (M : MemS), i ≤ s.W ∧ t = .int .i64 i ∧ LI S M ∧ S.W = s.W ∧ PG w (fun k => k = bx ∨ L.own s.W k) m a b p S M wr ∧ Blk wr bx s.cells 26) (fun t _ => s.W - (intOf t).toNat)
    case atStart => exact ⟨0, S0, MemS.fresh (ws + 7), by omega, rfl, HL0.out, by rw [HS0.out]; rfl, HP10.out, HX10.out⟩
    case round =>
      obtain ⟨i, S, M, hi, rfl, hli, hSW, hp, hx⟩ := hrel
      have HL := Lib.hid hli; have HSW := Lib.hid hSW; have HP := Lib.hid hp; have HX := Lib.hid hx
      obtain ⟨c0, -⟩ := shp_cells hx
      clear hli hSW hp hx HP10 HX10 HL0 HS0
      by_cases hlt : i < s.W
      · have HLT := Lib.hid hlt
        go_wp2_with fail
        clear c0
        obtain ⟨wo, rfl⟩ : ∃ x, x = wr := ⟨_, rfl⟩
        try rw [show decide ((i : Int) < (s.W : Int)) = true from decide_eq_true (by omega)]
        go_loopw [22] (fun t wr => ∃ (k : Nat) (S : PS) (M : MemS), k ≤ 3 ∧ t = .int .i64 k ∧ LI S M ∧ S.W = s.W ∧ PG w (fun k => k = bx ∨ L.own s.W k) m a b p S M wr ∧ Blk wr bx s.cells 26) (fun t _ => 3 - (intOf t).toNat)
        case atStart => exact ⟨0, S, M, by omega, rfl, HL.out, HSW.out, HP.out, HX.out⟩
        case round =>
          obtain ⟨k, S1, M1, hk, rfl, hli, hSW, hp, hx⟩ := hrel
          have HL1 := Lib.hid hli; have HSW1 := Lib.hid hSW; have HP1 := Lib.hid hp; have HX1 := Lib.hid hx
          clear hli hSW hp hx HL HSW HP HX
          by_cases hlt2 : k < 3
          · go_wp2_with fail
            refine (HP1.out.take i k).mono ?_
            rintro e w11 ⟨rfl, hp, ht⟩
            have HX2 := Lib.hid (HX1.out.turn ht (fun q => q.1 (.inl rfl)))
            have h2 := HL1.out.take2 i k
            obtain ⟨T, hT⟩ : ∃ T, T = S1.take M1 i k := ⟨_, rfl⟩
            rw [← hT] at hp h2 ⊢
            clear hT
            obtain ⟨⟨g, q⟩, S2, M2⟩ := T
            simp only [] at hp h2 ⊢
            have HP2 := Lib.hid hp
            clear hp ht HP1 HX1 HL1
            rcases h2 with ⟨hq, hli, hSW⟩ | ⟨y, he, hli, hSW, hth, htk⟩
            · have hq0 : (q == 0) = false := by simpa using hq
              have HL2 := Lib.hid hli; have HSW2 := Lib.hid (hSW.trans HSW1.out)
              clear hli hSW hq HSW1
              go_wp2_with fail
              go_roundw
              case rel => exact ⟨k + 1, S2, M2, by omega, by go_num, HL2.out, HSW2.out, HP2.out, HX2.out⟩
              case measure => simp [intOf]; omega
            · injection he with e1 e2
              subst e1; subst e2
              have HL2 := Lib.hid hli; have HSW2 := Lib.hid (hSW.trans HSW1.out)
              have hwv := PS.whereV_there hth
              obtain ⟨pos, hpos⟩ : ∃ pos, pos = (S2.blk g).pos := ⟨_, rfl⟩
              obtain ⟨size, hsize⟩ : ∃ size, size = (S2.blk g).size := ⟨_, rfl⟩
              have h11 := hli.live11 hth htk
              have h0 := hli.code0 hth htk
              rw [← hpos, ← hsize] at h11 hwv
              rw [← hpos] at h0
              have H11 := Lib.hid h11; have H0 := Lib.hid h0; have HWV := Lib.hid hwv
              have HG2 := Lib.hid (fun (M : MemS) (h : LI S2 M) => show (S2.give M 0 g).1 = 0 ∧ LI (S2.give M 0 g).2.1 (S2.give M 0 g).2.2 ∧ (S2.give M 0 g).2.1.W = S2.W ∧ (S2.give M 0 g).2.2.code pos = 7 from by
                rw [hpos]; exact h.give2 (by rw [HSW2.out]; have := HU.out.right.1; omega) hth htk)
              clear h11 h0 hwv hpos hsize hli hSW hth htk HSW1
              go_wp2_with fail
              refine (HP2.out.where_ g).mono ?_
              rintro e w12 ⟨rfl, hp, ht⟩
              rw [HWV.out]
              have HX3 := Lib.hid (HX2.out.turn ht (fun q => q.1 (.inl rfl)))
              have HP3 := Lib.hid hp
              clear hp ht HP2 HX2 HWV
              go_wp2_with fail
              refine (HP3.out.live pos size).mono ?_
              rintro e w13 ⟨rfl, hp, ht⟩
              rw [H11.out]
              rw [MemS.turn_ne (by rw [H11.out]; decide)] at hp
              have HX4 := Lib.hid (HX3.out.turn ht (fun q => q.1 (.inl rfl)))
              have HP4 := Lib.hid hp
              clear hp ht HP3 HX3 H11
              go_wp2_with fail
              refine (HP4.out.store pos 5).mono ?_
              rintro e w14 ⟨rfl, hp, ht⟩
              rw [H0.out]
              have HX5 := Lib.hid (HX4.out.turn ht (fun q => q.1 (.inl rfl)))
              have HP5 := Lib.hid hp
              clear hp ht HP4 HX4 H0
              have HL3 := Lib.hid (HL2.out.store pos 5)
              obtain ⟨M3, hM3⟩ : ∃ M3, M3 = M2.store pos 5 := ⟨_, rfl⟩
              rw [← hM3] at HL3 HP5
              clear hM3 HL2
              go_wp2_with fail
              refine (HP5.out.give 0 g).mono ?_
              rintro e w15 ⟨rfl, hp, ht⟩
              have hg := HG2.out M3 HL3.out
              have HX6 := Lib.hid (HX5.out.turn ht (fun q => q.1 (.inl rfl)))
              obtain ⟨T, hT⟩ : ∃ T, T = S2.give M3 0 g := ⟨_, rfl⟩
              rw [← hT] at hp hg ⊢
              clear hT HG2
              obtain ⟨q, S4, M4⟩ := T
              simp only [] at hp hg ⊢
              obtain ⟨rfl, hli, hSW, h7⟩ := hg
              have HP6 := Lib.hid hp; have HL4 := Lib.hid hli; have HSW4 := Lib.hid (hSW.trans HSW2.out); have H7 := Lib.hid h7
              clear hp ht hli hSW h7 HP5 HX5 HL3 HSW2
              go_wp2_with fail
              refine (HP6.out.load pos).mono ?_
              rintro e w16 ⟨rfl, hp, ht⟩
              rw [H7.out]
              have HX7 := Lib.hid (HX6.out.turn ht (fun q => q.1 (.inl rfl)))
              have HP7 := Lib.hid hp
              clear hp ht HP6 HX6 H7
              go_wp2_with fail
              go_roundw
              case rel => exact ⟨k + 1, S4, _, by omega, by go_num, HL4.out.load _, HSW4.out, HP7.out, HX7.out⟩
              case measure => simp [intOf]; omega
          · go_wp2_with fail
            go_roundw
            case rel => exact ⟨i + 1, S1, M1, HLT.out, by go_num, HL1.out, HSW1.out, HP1.out, HX1.out⟩
            case measure => have := HLT.out; simp [intOf]; omega
      · go_wp2_with fail
        refine (awake_any _).mono ?_
        rintro e w9 ⟨rfl, hb⟩
        have HB := Lib.hid (below_below HP.out.below (Nat.le_refl _) hb); clear hb
        go_wp2_with fail
        go_ret
        exact ⟨rfl, HB.out⟩

theorem poolPlaces_walk (z : Int) (hz : (Lit.int .u32 z).wf = true) (x : Int) (w : World) : Calls Try.prog 7 #[.int .u32 z, .int .i64 x] w fun e w' => e = .returned (.bool true) ∧ Below w.heap.size w w' := by
  have hz := wf_u32 hz
  obtain ⟨y, rfl⟩ : ∃ y : Nat, z = y := ⟨z.toNat, by omega⟩
  exact poolPlaces_nat y (by omega) x w

end Go.Proofs.Ytccadafajocbgaa
