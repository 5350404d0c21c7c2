/- Layer 9: the law's own functions: a move of one who has no operation; any move. -/
import Derived.Test.YtlogmfpnjpamgaaDeqX2
import Derived.Test.YtlogmfpnjpamgaaDeqZ
open Go Go.RowKit
namespace Go.Proofs.Ytlogmfpnjpamgaa

theorem begin_any {w0 w : World} {Y : Lay9} {kind room i : Nat} {A : AW} {fv hv : Value} (pop : Bool) (h : VA w0 w Y kind room A fv hv) (hi : i < 4) (hn : A.h i = none) (hp : A.pushed ≤ 1000000) :
    Calls Try.prog 26 #[.pointer (some ⟨Y.v, 0, none⟩), .int .i64 i, .bool pop] w (Begun w0 Y kind room i A.D A.h (A.op i pop) (A.np i pop) A.full A.handed fv hv) := by
  by_cases h0 : i = 0
  · subst h0
    cases pop with
    | true =>
      have e1 : A.op 0 true = DOp.new 1 0 := by simp [AW.op, hn]
      have e2 : A.np 0 true = A.pushed := by simp [AW.np, hn]
      rw [e1, e2]
      exact begin_pop h
    | false =>
      have e1 : A.op 0 false = DOp.new 0 ((A.pushed + 1 : Nat) : Int) := by simp [AW.op, hn]
      have e2 : A.np 0 false = A.pushed + 1 := by simp [AW.np, hn]
      rw [e1, e2]
      exact begin_push h hp
  · have e1 : A.op i pop = DOp.new 2 0 := by simp [AW.op, hn, h0]
    have e2 : A.np i pop = A.pushed := by simp [AW.np, hn, h0]
    rw [e1, e2]
    exact begin_steal pop h hi (by omega)

theorem op_new {A : AW} {i : Nat} (pop : Bool) (hn : A.h i = none) (kind room N : Nat) : (A.op i pop).Ok kind room N ∧ (A.op i pop).ended = false := by
  simp only [AW.op, hn]
  by_cases h0 : i = 0
  · rw [if_pos h0]
    cases pop with
    | true => exact ⟨DOp.new_ok _ _ _ _ _ (by omega), rfl⟩
    | false => exact ⟨DOp.new_ok _ _ _ _ _ (by omega), rfl⟩
  · rw [if_neg h0]; exact ⟨DOp.new_ok _ _ _ _ _ (by omega), rfl⟩

set_option maxRecDepth 100000 in
set_option maxHeartbeats 4000000 in
theorem move_none {w0 w : World} {Y : Lay9} {kind room i N : Nat} {A0 : AW} {fv hv : Value} (x : Nat) (pop : Bool) (hx : x ≤ 255) (hxi : x % 4 = i) (h : VA w0 w Y kind room A0 fv hv) (hn : A0.h i = none) (hdq : DqOk kind room N A0.D) (hr1 : 1 ≤ room) (hr : room ≤ 1000) (hN : N ≤ 100000) (hp : A0.pushed ≤ 100000) (hl : A0.full.length ≤ 100000 ∧ A0.handed.length ≤ 100000) :
    Calls Try.prog 15 #[.pointer (some ⟨Y.v, 0, none⟩), .agg #[.int .u8 x, .bool pop]] w (Moved w0 Y.v kind room (A0.move kind room i pop)) := by
  have hi : i < 4 := by omega
  have hxe : (x : Int) % 4 = i := by omega
  have cO := h.cellO hi
  have e0 : Y.hpo i = none := by
    rcases h.hs i hi with ⟨a, _⟩ | ⟨p, q, o, d, a1, a2, a3, _⟩
    · exact a
    · rw [hn] at a3; cases a3
  rw [e0] at cO
  have cN : w.cell? ⟨Y.v, 5 + i * 2, none⟩ = some (.pointer none) := cO
  clear cO
  have hvl := h.top.lt
  obtain ⟨o, hoo⟩ : ∃ o, o = A0.op i pop := ⟨_, rfl⟩
  obtain ⟨A1, hA1⟩ : ∃ A1, A1 = A0.beg i pop := ⟨_, rfl⟩
  have CB := Lib.hid (fun (y : World) (hy : VA w0 y Y kind room A0 fv hv) => begin_any pop hy hi hn (by omega))
  have ON := Lib.hid (op_new pop hn kind room N)
  have HV := Lib.hid h
  have HDQ := Lib.hid hdq
  have HA1 : Hid (A0.move kind room i pop = A1.stp kind room i o) := Lib.hid (by rw [hoo, hA1]; rfl)
  have E1 : Hid (A1.D = A0.D ∧ A1.h = upd A0.h i (some o) ∧ A1.pushed = A0.np i pop ∧ A1.full = A0.full ∧ A1.handed = A0.handed) := Lib.hid (by subst hA1; subst hoo; exact ⟨rfl, rfl, rfl, rfl, rfl⟩)
  rw [← hoo] at CB ON
  have hl : A1.full.length ≤ 100000 ∧ A1.handed.length ≤ 100000 := by rw [E1.out.2.2.2.1, E1.out.2.2.2.2]; exact hl
  clear h hn hdq hoo hA1 e0
  have hxw := hxi; clear hxi
  go_enter Try.func15, Try.ntmps15
  go_wp2_with fail
  refine (CB.out _ (HV.out.only0 ((Only.refl _ _).alloc _))).mono ?_
  rintro e w1 ⟨rfl, Y2, h1, ey⟩
  have EY := Lib.hid ey
  rw [← ey]
  clear cN hvl CB ey
  obtain ⟨p, q, d, hd, hh⟩ := h1.inHand hi (upd_self _ _ _)
  rw [upd_self] at hd; injection hd with hd; subst hd
  obtain ⟨c0, c4, cO, cW, c14, c15, fO, fW, f14, f15, vl⟩ := h1.hcells hi hh.ep hh.eq
  have CE := Lib.hid (h1.endP hi (upd_self _ _ _) hh)
  rw [show o.tells = .tuple #[.int .i64 0, .int .i64 11] by simp [DOp.tells, ON.out.2]] at CE
  have EPQ : Hid (Y2.hpo i = some p ∧ Y2.hpw i = some q) := Lib.hid ⟨hh.ep, hh.eq⟩
  clear hh h1
  go_wp2_with fail
  refine CE.out.mono ?_
  rintro e w1b ⟨rfl, h1⟩
  have hh := h1.inHand2 hi (upd_self _ _ _) (upd_self _ _ _) EPQ.out.1 EPQ.out.2
  have AH1 : Hid (Ahead w0 w1b Y2 kind room i N p q A1 o fv hv) := Lib.hid (by
    obtain ⟨e1, e2, e3, e4, e5⟩ := E1.out
    refine ⟨?_, by rw [e2, upd_self], hh, by rw [e1]; exact HDQ.out, ON.out.1⟩
    unfold VA; rw [e1, e2, e3, e4, e5]; exact h1)
  clear CE h1 hh c0 c4 cO cW c14 c15 fO fW f14 f15 vl
  obtain ⟨c0, c4, cO, cW, c14, c15, fO, fW, f14, f15, vl⟩ := AH1.out.va.hcells hi AH1.out.hh.ep AH1.out.hh.eq
  -- the program's move, the document's
  obtain ⟨o', ho'⟩ : ∃ o', o' = (o.step kind room A1.D).1 := ⟨_, rfl⟩
  obtain ⟨D', hD'⟩ : ∃ D', D' = (o.step kind room A1.D).2 := ⟨_, rfl⟩
  have C := Lib.hid (fun (y : World) (hy : VX w0 y Y2 kind room A1.D A1.D A1.h A1.h A1.pushed A1.full A1.handed fv hv) => hy.moveP hi AH1.out.ho (hy.inHand2 hi AH1.out.ho AH1.out.ho AH1.out.hh.ep AH1.out.hh.eq) AH1.out.dq AH1.out.ok (by omega))
  have CD := Lib.hid (fun (y : World) (hy : VX w0 y Y2 kind room D' A1.D (upd A1.h i (some o')) A1.h A1.pushed A1.full A1.handed fv hv) => hy.moveD hi AH1.out.ho (hy.inHand2 hi (upd_self _ _ _) AH1.out.ho AH1.out.hh.ep AH1.out.hh.eq) hr1 hr AH1.out.dq AH1.out.ok (by omega))
  rw [← ho', ← hD'] at C CD
  have HE : Hid (A0.move kind room i pop = A1.fin i o' D') := Lib.hid (by rw [HA1.out, ho', hD']; rfl)
  clear ho' hD'
  by_cases he : o'.ended = true
  · rw [he] at C
    have HEN := Lib.hid he; clear he
    go_wp2_with fail
    go_region_held3 (fun w' => w'.cell? ⟨Y2.v, 0, none⟩ = some (.pointer (some ⟨Y2.m, 0, none⟩)) ∧ w'.cell? ⟨Y2.v, 5 + i * 2, none⟩ = some (.pointer (some ⟨p, 0, none⟩))) (go_keep)
      (first
        | (go_at_call 22; refine (C.out _ (AH1.out.va.only0 (Only.refl _ _).drew)).mono ?_; rintro e w2 ⟨rfl, h2⟩; obtain ⟨c0, c4, cO, cW, c14, c15, fO, fW, f14, f15, vl⟩ := h2.hcells hi AH1.out.hh.ep AH1.out.hh.eq; have H2 := Lib.hid h2; clear h2))
    go_wp2_with fail
    go_region_held3 (fun w' => w'.cell? ⟨Y2.v, 4, none⟩ = some (.pointer (some ⟨Y2.r, 0, none⟩)) ∧ w'.cell? ⟨Y2.v, 5 + i * 2 + 1, none⟩ = some (.pointer (some ⟨q, 0, none⟩))) (go_keep)
      (first
        | (go_at_call 27; refine (CD.out _ (H2.out.only0 (Only.refl _ _).drew)).mono ?_; rintro e w3 ⟨rfl, h3'⟩; obtain ⟨c0, c4, cO, cW, c14, c15, fO, fW, f14, f15, vl⟩ := h3'.hcells hi AH1.out.hh.ep AH1.out.hh.eq; have H3' := Lib.hid h3'; clear h3'))
    have h3 := H3'.out; clear H3'
    have bq := h3.inHand2 hi (upd_self _ _ _) (upd_self _ _ _) AH1.out.hh.ep AH1.out.hh.eq
    have q5 := bq.bq.cell 5; have q6 := bq.bq.cell 6; have q7 := bq.bq.cell 7; have q0 := bq.bq.cell 0; have q2 := bq.bq.cell 2
    simp [DOp.cells] at q5 q6 q7 q0 q2
    rw [HEN.out] at q5
    have H3 := Lib.hid h3; have BQ := Lib.hid bq; clear h3 bq C CD
    have CE := Lib.hid (H3.out.endP hi (upd_self _ _ _) BQ.out)
    rw [show o'.tells = .tuple #[.int .i64 o'.result, .int .i64 o'.why] by simp [DOp.tells, HEN.out]] at CE
    go_wp2_with fail
    refine CE.out.mono ?_
    rintro e w4 ⟨rfl, h4⟩
    clear CE q5 q6 q7 q0 q2 c0 c4 cO cW c14 c15 fO fW f14 f15 vl
    obtain ⟨c0, c4, cO, cW, c14, c15, fO, fW, f14, f15, vl⟩ := h4.hcells hi AH1.out.hh.ep AH1.out.hh.eq
    have bq := h4.inHand2 hi (upd_self _ _ _) (upd_self _ _ _) AH1.out.hh.ep AH1.out.hh.eq
    have q5 := bq.bq.cell 5; have q6 := bq.bq.cell 6; have q7 := bq.bq.cell 7; have q0 := bq.bq.cell 0; have q2 := bq.bq.cell 2
    simp [DOp.cells] at q5 q6 q7 q0 q2
    have H4 := Lib.hid h4; clear h4 bq
    have CM := Lib.hid (fun (y : World) (hy : VX w0 y Y2 kind room D' D' (upd A1.h i (some o')) (upd A1.h i (some o')) A1.pushed A1.full A1.handed fv hv) => hy.movedP hi (upd_self _ _ _) (hy.inHand2 hi (upd_self _ _ _) (upd_self _ _ _) AH1.out.hh.ep AH1.out.hh.eq) HEN.out)
    go_wp2_with fail
    go_region_held3 (fun w' => w'.cell? ⟨Y2.v, 0, none⟩ = some (.pointer (some ⟨Y2.m, 0, none⟩)) ∧ w'.cell? ⟨Y2.v, 5 + i * 2, none⟩ = some (.pointer (some ⟨p, 0, none⟩)) ∧ w'.cell? ⟨Y2.v, 5 + i * 2 + 1, none⟩ = some (.pointer (some ⟨q, 0, none⟩)) ∧ w'.cell? ⟨q, 6, none⟩ = some (.int .i64 o'.result) ∧ w'.cell? ⟨q, 7, none⟩ = some (.int .i64 o'.why)) (go_keep)
      (first
        | (go_at_call 22; refine (CM.out _ (H4.out.only0 (Only.refl _ _).drew)).mono ?_; rintro e w5 ⟨rfl, h5⟩; obtain ⟨c0, c4, cO, cW, c14, c15, fO, fW, f14, f15, vl⟩ := h5.hcells hi AH1.out.hh.ep AH1.out.hh.eq; have bq := h5.inHand2 hi (upd_self _ _ _) (upd_self _ _ _) AH1.out.hh.ep AH1.out.hh.eq; have q6 := bq.bq.cell 6; have q7 := bq.bq.cell 7; have q0 := bq.bq.cell 0; have q2 := bq.bq.cell 2; simp [DOp.cells] at q6 q7 q0 q2; have H5 := Lib.hid h5; clear h5 bq))
    clear CM
    by_cases h8 : o'.why = 8
    · have hb8 : (o'.why == 8) = true := by simpa using h8
      have hb0 : (o'.why == 0) = false := by simp [h8]
      have H8 := Lib.hid h8; clear h8
      obtain ⟨i0, hi0, hz0, hz1, hz2⟩ := info_parts info64
      have HB5 := Lib.hid H5.out.bel.size
      go_wp2_with fail
      go_region_law ((refine step_append_ours _ rfl (.tmp 116) (.tmp 124) 48 rfl w0.heap.size 2 i0 (.int .i64 0) 1 8 Try.underlying48 hi0 hz0 hz1 hz2 rfl (by decide) fv A1.full.length (A1.full.map (Value.int .i64)) rfl ?own ⟨w5.heap.size, 0, none⟩ 1 1 [.int .i64 o'.x] rfl rfl ?c1 ?c2 ?c3 ?c4 ?c5 ?_; (case own => exact OwnI.only H5.out.rowf.1 (by first | exact (Only.refl [] _).drew.alloc _ | exact ((Only.refl [] _).alloc _).drew) (by simp)); (case c1 => exact one_cell _ _ (by simp [Addr.add])); (case c2 => (intro u hu; simp at hu; subst hu; rfl)); (case c3 => (have := hl.1; unfold maxLen; omega)); (case c4 => (have := hl.1; omega)); (case c5 => (have := HB5.out; simp; omega)); intro fv' w6 own' hg hb; obtain ⟨a', cap', rfl⟩ := own_form own'; have ht6 := grown_top (H5.out.only0 (by first | exact (Only.refl [] _).drew.alloc _ | exact ((Only.refl [] _).alloc _).drew | exact (Only.refl [] _).alloc _)) hg (fun k hk => by have := H5.out.rowf.2 k hk; omega); have d14 := ht6.cell 14; have g14 := ht6.free 14; have dO := (ht6.cell (5 + i * 2)).trans (WC_getO hi); have dW := (ht6.cell (5 + i * 2 + 1)).trans (WC_getW hi); have gO := ht6.free (5 + i * 2); have gW := ht6.free (5 + i * 2 + 1); have vl6 := ht6.lt; simp [WC] at d14; have HT6 := Lib.hid ht6; have HG := Lib.hid hg; have HOWN := Lib.hid own'; have HBB := Lib.hid hb; clear ht6 hg own' hb))
      all_goals go_wp2_with fail
      all_goals go_ret
      all_goals refine ⟨rfl, ?_⟩
      all_goals obtain ⟨Y', hY, e⟩ := full_fin (H5.out.only0 (by first | exact (Only.refl [] _).drew.alloc _ | exact ((Only.refl [] _).alloc _).drew | exact (Only.refl [] _).alloc _)) hi HG.out HOWN.out HBB.out 0
      all_goals exact ⟨Y', _, _, by rw [HE.out, fin_full HEN.out H8.out]; exact hY.congr (upd_upd _ _ _ _) (upd_upd _ _ _ _), e.trans EY.out⟩
    · have hb8 : (o'.why == 8) = false := by simpa using h8
      have H8 := Lib.hid h8; clear h8
      by_cases h00 : o'.why = 0 ∧ 0 < o'.what
      · have hb0 : (o'.why == 0) = true := by simpa using h00.1
        have hbw : (0 : Int) < (o'.what : Int) := by omega
        have H00 := Lib.hid h00; clear h00
        obtain ⟨i0, hi0, hz0, hz1, hz2⟩ := info_parts info64
        have HB5 := Lib.hid H5.out.bel.size
        go_wp2_with ((refine wpList_append_ours _ rfl (.tmp 144) (.tmp 146) 48 rfl w0.heap.size 2 i0 (.int .i64 0) 1 8 Try.underlying48 hi0 hz0 hz1 hz2 rfl (by decide) hv A1.handed.length (A1.handed.map (Value.int .i64)) rfl ?own2 ⟨w5.heap.size, 0, none⟩ 1 1 [.int .i64 o'.result] rfl rfl ?d1 ?d2 ?d3 ?d4 ?d5 ?_; (case own2 => exact OwnI.only H5.out.rowh.1 (by first | exact (Only.refl [] _).drew.alloc _ | exact ((Only.refl [] _).alloc _).drew | exact (Only.refl [] _).alloc _) (by simp)); (case d1 => exact one_cell _ _ (by simp [Addr.add])); (case d2 => (intro u hu; simp at hu; subst hu; rfl)); (case d3 => (have := hl.2; unfold maxLen; omega)); (case d4 => (have := hl.2; omega)); (case d5 => (have := HB5.out; simp; omega)); intro hv' w6 own' hg hb; obtain ⟨a', cap', rfl⟩ := own_form own'; have ht6 := grown_top (H5.out.only0 (by first | exact (Only.refl [] _).drew.alloc _ | exact ((Only.refl [] _).alloc _).drew | exact (Only.refl [] _).alloc _)) hg (fun k hk => by have := H5.out.rowh.2 k hk; omega); have d14 := ht6.cell 15; have g14 := ht6.free 15; have dO := (ht6.cell (5 + i * 2)).trans (WC_getO hi); have dW := (ht6.cell (5 + i * 2 + 1)).trans (WC_getW hi); have gO := ht6.free (5 + i * 2); have gW := ht6.free (5 + i * 2 + 1); have vl6 := ht6.lt; simp [WC] at d14; have HG := Lib.hid hg; have HOWN := Lib.hid own'; have HBB := Lib.hid hb; clear ht6 hg own' hb))
        go_ret
        refine ⟨rfl, ?_⟩
        obtain ⟨Y', hY, e⟩ := hand_fin (H5.out.only0 (by first | exact (Only.refl [] _).drew.alloc _ | exact ((Only.refl [] _).alloc _).drew | exact (Only.refl [] _).alloc _)) hi HG.out HOWN.out HBB.out 0
        exact ⟨Y', _, _, by rw [HE.out, fin_hand HEN.out H00.out.1 H00.out.2]; exact hY.congr (upd_upd _ _ _ _) (upd_upd _ _ _ _), e.trans EY.out⟩
      · have HN : Hid (o'.why ≠ 8 ∧ (o'.why = 0 → o'.what = 0)) := Lib.hid ⟨H8.out, fun h => by omega⟩
        by_cases h01 : o'.why = 0
        · have hb0 : (o'.why == 0) = true := by simpa using h01
          have hbw2 : decide (0 < o'.what) = false := by simp; omega
          clear h00 h01
          go_wp2_with fail
          go_ret
          refine ⟨rfl, ?_⟩
          obtain ⟨Y', hY, e⟩ := none_fin H5.out hi 0
          exact ⟨Y', _, _, by rw [HE.out, fin_none HEN.out HN.out.1 HN.out.2]; exact hY.congr (upd_upd _ _ _ _) (upd_upd _ _ _ _), e.trans EY.out⟩
        · have hb0 : (o'.why == 0) = false := by simpa using h01
          clear h00 h01
          go_wp2_with fail
          go_ret
          refine ⟨rfl, ?_⟩
          obtain ⟨Y', hY, e⟩ := none_fin H5.out hi 0
          exact ⟨Y', _, _, by rw [HE.out, fin_none HEN.out HN.out.1 HN.out.2]; exact hY.congr (upd_upd _ _ _ _) (upd_upd _ _ _ _), e.trans EY.out⟩
  · have he := eq_false_of_ne_true he
    rw [he] at C
    have HEN := Lib.hid he; clear he
    go_wp2_with fail
    go_region_held3 (fun w' => w'.cell? ⟨Y2.v, 0, none⟩ = some (.pointer (some ⟨Y2.m, 0, none⟩)) ∧ w'.cell? ⟨Y2.v, 5 + i * 2, none⟩ = some (.pointer (some ⟨p, 0, none⟩))) (go_keep)
      (first
        | (go_at_call 22; refine (C.out _ (AH1.out.va.only0 (Only.refl _ _).drew)).mono ?_; rintro e w2 ⟨rfl, h2⟩; obtain ⟨c0, c4, cO, cW, c14, c15, fO, fW, f14, f15, vl⟩ := h2.hcells hi AH1.out.hh.ep AH1.out.hh.eq; have H2 := Lib.hid h2; clear h2))
    go_wp2_with fail
    go_region_held3 (fun w' => w'.cell? ⟨Y2.v, 4, none⟩ = some (.pointer (some ⟨Y2.r, 0, none⟩)) ∧ w'.cell? ⟨Y2.v, 5 + i * 2 + 1, none⟩ = some (.pointer (some ⟨q, 0, none⟩))) (go_keep)
      (first
        | (go_at_call 27; refine (CD.out _ (H2.out.only0 (Only.refl _ _).drew)).mono ?_; rintro e w3 ⟨rfl, h3'⟩; obtain ⟨c0, c4, cO, cW, c14, c15, fO, fW, f14, f15, vl⟩ := h3'.hcells hi AH1.out.hh.ep AH1.out.hh.eq; have H3' := Lib.hid h3'; clear h3'))
    have h3 := H3'.out; clear H3'
    have bq := h3.inHand2 hi (upd_self _ _ _) (upd_self _ _ _) AH1.out.hh.ep AH1.out.hh.eq
    have q5 := bq.bq.cell 5
    simp [DOp.cells] at q5
    rw [HEN.out] at q5
    have H3 := Lib.hid h3; clear h3 bq C CD
    go_wp2_with fail
    go_ret
    exact ⟨rfl, Y2, fv, hv, by rw [HE.out, fin_go HEN.out]; exact H3.out, EY.out⟩

/-- What is so of a world of the law's: N moves were done. -/
structure Good (w0 w : World) (v kind room N : Nat) (A : AW) : Prop where
  va : ∃ Y fv hv, VA w0 w Y kind room A fv hv ∧ Y.v = v
  all : All kind room N A
  inv : Inv kind room A
  len : A.full.length ≤ N ∧ A.handed.length ≤ N ∧ A.pushed ≤ N
  out : ∀ i, 4 ≤ i → A.h i = none

theorem len_stp {kind room N i : Nat} {A : AW} {o : DOp} (h : A.full.length ≤ N ∧ A.handed.length ≤ N) : (A.stp kind room i o).full.length ≤ N + 1 ∧ (A.stp kind room i o).handed.length ≤ N + 1 := by
  unfold AW.stp AW.fin
  constructor
  · show (if _ then _ else _ : List Int).length ≤ _
    split
    · simp; omega
    · omega
  · show (if _ then _ else _ : List Int).length ≤ _
    split
    · simp; omega
    · omega
theorem np_le (A : AW) (i : Nat) (pop : Bool) : A.np i pop ≤ A.pushed + 1 := by
  unfold AW.np
  split
  · omega
  · split <;> omega

theorem Good.move {w0 w : World} {v kind room N : Nat} {A : AW} (h : Good w0 w v kind room N A) (hk : kind = 1 ∨ kind = 2 ∨ kind = 3) (hr1 : 1 ≤ room) (hr : room ≤ 1000) (hN : N ≤ 99999) (x : Nat) (pop : Bool) (hx : x ≤ 255) :
    Calls Try.prog 15 #[.pointer (some ⟨v, 0, none⟩), .agg #[.int .u8 x, .bool pop]] w fun e w' => e = .returned (.bool true) ∧ Good w0 w' v kind room (N + 1) (A.move kind room (x % 4) pop) := by
  obtain ⟨⟨Y, fv, hv, hva, rfl⟩, hall, hinv, ⟨l1, l2, l3⟩, hout⟩ := h
  have hb := hall.beg (x % 4) pop
  have hbi := hinv.beg (x % 4) pop
  have hop := A.beg_h (x % 4) pop
  have hgood : All kind room (N + 1) (A.move kind room (x % 4) pop) ∧ Inv kind room (A.move kind room (x % 4) pop) ∧ ((A.move kind room (x % 4) pop).full.length ≤ N + 1 ∧ (A.move kind room (x % 4) pop).handed.length ≤ N + 1 ∧ (A.move kind room (x % 4) pop).pushed ≤ N + 1) ∧ ∀ i, 4 ≤ i → (A.move kind room (x % 4) pop).h i = none := by
    refine ⟨hb.stp hk hr hop, hbi.stp hk hr1 hr hb hop, ⟨(len_stp (A := A.beg (x % 4) pop) ⟨l1, l2⟩).1, (len_stp (A := A.beg (x % 4) pop) ⟨l1, l2⟩).2, ?_⟩, fun i hi => ?_⟩
    · show A.np (x % 4) pop ≤ N + 1
      have := np_le A (x % 4) pop; omega
    · have hne : i ≠ x % 4 := by omega
      unfold AW.move AW.stp
      rw [AW.fin_ne _ _ _ _ hne, AW.beg_ne _ _ _ hne]; exact hout i hi
  obtain ⟨g1, g2, g3, g4⟩ := hgood
  cases hh : A.h (x % 4) with
  | none =>
    refine (move_none x pop hx rfl hva hh hall.dq hr1 hr (by omega) (by omega) (by omega)).mono ?_
    rintro e w' ⟨rfl, Y', fv', hv', hva', e⟩
    exact ⟨rfl, ⟨Y', fv', hv', hva', e⟩, g1, g2, g3, g4⟩
  | some o =>
    obtain ⟨p, q, d, hd, hin⟩ := hva.inHand (by omega) hh
    rw [hh] at hd; injection hd with hd; subst hd
    have em : A.move kind room (x % 4) pop = A.stp kind room (x % 4) o := by
      unfold AW.move
      rw [AW.beg_some hh]
      simp only [AW.op, hh]
    rw [em] at g1 g2 g3 g4 ⊢
    refine (move_some x pop hx rfl ⟨hva, hh, hin, hall.dq, (hall.ok _ _ hh).1⟩ hr1 hr (by omega) (by omega)).mono ?_
    rintro e w' ⟨rfl, Y', fv', hv', hva', e⟩
    exact ⟨rfl, ⟨Y', fv', hv', hva', e⟩, g1, g2, g3, g4⟩

end Go.Proofs.Ytlogmfpnjpamgaa
