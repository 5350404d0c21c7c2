/- Layer 13: what the chapter's example says (awake). -/
import Derived.Test.YtglifjecihmbhaaCellD
open Go Go.RowKit
namespace Go.Proofs.Ytglifjecihmbhaa

theorem OpS.right_fin {s : OpS} (h : s.right) (c : Int) : (OpS.fin c s).right := by
  unfold OpS.fin
  split
  · exact h
  · exact h

theorem OpS.right_run {s : OpS} (t : MemS) (h : s.right) : (s.run t).2.1.right := by
  obtain ⟨hn, hb, hb2⟩ := h
  obtain ⟨base, x, link, hd, waits, value, why, first, next, ended, fault⟩ := s
  simp only at hn hb hb2
  unfold OpS.run
  simp only
  split
  · refine ⟨?_, hb, hb2⟩; simp only [OpS.look]; split <;> simp
  split
  · exact ⟨by simp [OpS.tie], hb, hb2⟩
  split
  · unfold OpS.queue; split <;> exact ⟨by simp, hb, hb2⟩
  split
  · exact ⟨by simp [OpS.told], hb, hb2⟩
  split
  · exact ⟨hn, hb, hb2⟩
  split
  · exact ⟨by simp [OpS.val], hb, hb2⟩
  split
  · exact ⟨by simp [OpS.reason], hb, hb2⟩
  split
  · exact ⟨by simp [OpS.head], hb, hb2⟩
  · unfold OpS.close; split <;> exact ⟨by simp, hb, hb2⟩

theorem OpS.right_move {s : OpS} (t : MemS) (h : s.right) : (s.move t).1.right := by
  unfold OpS.move
  split
  · exact h
  · exact OpS.right_fin (OpS.right_run t h) _

/-- An operation that goes by itself, at most n moves. -/
def runs : Nat → OpS × MemS → OpS × MemS
  | 0, x => x
  | n + 1, x => if (x.1.move x.2).1.ended = true then x.1.move x.2 else runs n (x.1.move x.2)

def awM : MemS := ⟨List.replicate 9 0, List.replicate 9 true, 0⟩
def awA (k : Nat) : OpS := if k = 0 then .wait 0 7 5 else (runs 9 (.wait 0 7 5, awM)).1
def awT1 : MemS := (runs 9 (.wait 0 7 5, awM)).2
def awB (k : Nat) : OpS := if k ≤ 1 then .fill 0 5 0 else (runs 9 (.fill 0 5 0, awT1)).1
def awT2 : MemS := (runs 9 (.fill 0 5 0, awT1)).2
def awC (k : Nat) : OpS := if k ≤ 2 then .wait 0 8 6 else (runs 9 (.wait 0 8 6, awT2)).1
def awT3 : MemS := (runs 9 (.wait 0 8 6, awT2)).2
def awT (k : Nat) : MemS := if k = 0 then awM else if k = 1 then awT1 else if k = 2 then awT2 else awT3

/-- The three operations of the example at the head of round k, and what the walk needs of their blocks. -/
structure Aw (w0 w : World) (m a b p q r l : Nat) (k : Nat) : Prop where
  mem : IsMem w m a b (awT k)
  opA : Blk w p ((awA k).cells p) 66
  opB : Blk w q ((awB k).cells q) 66
  opC : Blk w r ((awC k).cells r) 66
  row : Blk w l [.pointer (some ⟨p, 0, none⟩), .pointer (some ⟨q, 0, none⟩), .pointer (some ⟨r, 0, none⟩)] 38
  bel : Below w0.heap.size w0 w

def l0 (w : World) : Nat := ((w.alloc (.cells #[.int .i64 0] 34)).drew).heap.size

set_option maxRecDepth 100000 in
set_option maxHeartbeats 4000000 in
theorem awake_any (w : World) : Calls Try.prog 10 #[] w fun e w' => e = .returned (.bool true) ∧ Below w.heap.size w w' := by
  have H0 := Lib.hid (new_ok 9 w (by omega))
  have E1 : (MemS.fresh 9).tcode 0 9 true = 0 := by decide +kernel
  have F1 : (MemS.fresh 9).turn 0 9 true = awM := by kernel_rfl
  replace F1 := Lib.hid F1
  go_enter Try.func10, Try.ntmps10
  go_wp2_with fail
  refine H0.out.mono ?_
  rintro e w1 ⟨m, a, b, rfl, hm, h1, h2, h3, ho⟩
  have HM1 := Lib.hid hm; have HB1 := Lib.hid ho.nil_below; clear hm ho
  go_wp2_with fail
  refine (live_any m a b _ _ _ _ HM1.out).mono ?_
  rintro e w2 ⟨rfl, hm, ho⟩
  rw [F1.out] at hm
  have HM2 := Lib.hid hm; have HB2 := Lib.hid (below_only3 HB1.out (Nat.le_refl _) ho h1 h2 h3); clear hm ho
  go_wp2_with fail
  refine (cat_any _ _).mono ?_
  rintro e w3 ⟨rfl, ho3⟩
  have HM3 := Lib.hid (HM2.out.only ho3 (by simp) (by simp) (by simp)); have HB3 := Lib.hid (below_only HB2.out (Nat.le_refl _) ho3 (by simp)); clear ho3
  go_wp2_with fail
  have HC0 := Lib.hid (Blk.drew (Blk.new w3 [.int .i64 0] 34))
  have HM4 := Lib.hid ((HM3.out.alloc (.cells #[.int .i64 0] 34)).drew)
  have HB4 := Lib.hid ((HB3.out.alloc HB3.out.size (.cells #[.int .i64 0] 34)).drew)
  go_region_held3 (fun w' => w'.cell? ⟨w3.heap.size, 0, none⟩ = some (.int .i64 0)) (go_keep)
    (first
      | (go_at_call 15; ((with_reducible refine (cwait_any 0 7 5 _).mono ?_); rintro e w5 ⟨p, rfl, hp, hps, ho⟩; have hc := HC0.out.only ho (by simp); have d5 := hc.cell 0; simp at d5; have HC5 := Lib.hid hc; have HP5 := Lib.hid hp; have HS5 := Lib.hid hps; have HM5 := Lib.hid (HM4.out.only ho (by simp) (by simp) (by simp)); have HB5 := Lib.hid (below_only HB4.out (Nat.le_refl _) ho (by simp)); clear hc hp hps ho))
      | (go_at_call 16; ((with_reducible refine (cfill_any 0 5 0 _).mono ?_); rintro e w6 ⟨q, rfl, hq, hqs, ho⟩; have hc := HC5.out.only ho (by simp); have d6 := hc.cell 0; simp at d6; have HC6 := Lib.hid hc; have HQ6 := Lib.hid hq; have HS6 := Lib.hid hqs; have HP6 := Lib.hid (HP5.out.only ho (by simp)); have HM6 := Lib.hid (HM5.out.only ho (by simp) (by simp) (by simp)); have HB6 := Lib.hid (below_only HB5.out (Nat.le_refl _) ho (by simp)); clear hc hq hqs ho))
      | (go_at_call 15; ((with_reducible refine (cwait_any 0 8 6 _).mono ?_); rintro e w7 ⟨r, rfl, hr, hrs, ho⟩; have hc := HC6.out.only ho (by simp); have d7 := hc.cell 0; simp at d7; have HR7 := Lib.hid hr; have HS7 := Lib.hid hrs; have HP7 := Lib.hid (HP6.out.only ho (by simp)); have HQ7 := Lib.hid (HQ6.out.only ho (by simp)); have HM7 := Lib.hid (HM6.out.only ho (by simp) (by simp) (by simp)); have HB7 := Lib.hid (below_only HB6.out (Nat.le_refl _) ho (by simp)); clear hc hr hrs ho)))
  go_wp2_with fail
  have q0 : m < l0 w3 ∧ a < l0 w3 ∧ b < l0 w3 := ⟨HM4.out.top.lt, HM4.out.words.lt, HM4.out.live.lt⟩
  have q1 : l0 w3 ≤ p := HS5.out
  have q2 : p < w5.heap.size := HP5.out.lt
  have q3 := HS6.out
  have q4 : q < w6.heap.size := HQ6.out.lt
  have q5 := HS7.out
  have q6 : r < w7.heap.size := HR7.out.lt
  have q7 : w.heap.size ≤ l0 w3 := HB4.out.size
  have HAW : Hid (Aw w (w7.alloc (.cells #[.pointer (some ⟨p, 0, none⟩), .pointer (some ⟨q, 0, none⟩), .pointer (some ⟨r, 0, none⟩)] 38)) m a b p q r w7.heap.size 0) :=
    Lib.hid ⟨HM7.out.alloc _, HP7.out.alloc _, HQ7.out.alloc _, HR7.out.alloc _, Blk.new _ [_, _, _] _, HB7.out.alloc HB7.out.size _⟩
  generalize w7.heap.size = l at *
  generalize l0 w3 = z0 at *
  clear HC0 HM4 HB4 HC5 HP5 HS5 HM5 HB5 HC6 HQ6 HS6 HP6 HM6 HB6 HR7 HS7 HP7 HQ7 HM7 HB7 d5 d6 d7
  go_loopw [5] (fun t wr => ∃ k : Nat, k ≤ 3 ∧ t = .int .i64 k ∧ Aw w wr m a b p q r l k) (fun t _ => 3 - (intOf t).toNat)
  case atStart => exact ⟨0, by omega, rfl, HAW.out⟩
  case round =>
    obtain ⟨k, hk, rfl, h⟩ := hrel
    clear HAW
    by_cases hlt : k < 3
    · rcases (show k = 0 ∨ k = 1 ∨ k = 2 by omega) with rfl | rfl | rfl
      · -- round 0
        rw [show ((0 : Nat) : Int) = (0 : Int) from rfl]
        have HZ : Hid (HasOp wr p m a b (OpS.wait 0 7 5) awM) := ⟨h.opA, h.mem, by omega, by omega, by omega⟩
        have HO1 : Hid (Blk wr q ((OpS.fill 0 5 0).cells q) 66) := h.opB
        have HO2 : Hid (Blk wr r ((OpS.wait 0 8 6).cells r) 66) := h.opC
        have HL := Lib.hid h.row
        have HB := Lib.hid h.bel
        clear h
        obtain ⟨wo, rfl⟩ : ∃ wo : World, wo = wr := ⟨_, rfl⟩
        go_wp2_with fail
        go_loopw [6] (fun t wr => ∃ (i : Nat) (x : OpS × MemS), i ≤ 9 ∧ t = .int .i64 i ∧ runs (9 - i) x = runs 9 (OpS.wait 0 7 5, awM) ∧ x.1.right ∧ HasOp wr p m a b x.1 x.2 ∧ Blk wr q ((OpS.fill 0 5 0).cells q) 66 ∧ Blk wr r ((OpS.wait 0 8 6).cells r) 66 ∧ Blk wr l [.pointer (some ⟨p, 0, none⟩), .pointer (some ⟨q, 0, none⟩), .pointer (some ⟨r, 0, none⟩)] 38 ∧ Below w.heap.size w wr) (fun t _ => 9 - (intOf t).toNat)
        case atStart => exact ⟨0, (OpS.wait 0 7 5, awM), by omega, rfl, rfl, ⟨Or.inl rfl, by decide, by decide⟩, HZ.out, HO1.out, HO2.out, HL.out, HB.out⟩
        case round =>
          obtain ⟨i, x, hi, rfl, hx, hr, hz, ho1, ho2, hl, hb⟩ := hrel
          have l0 := hl.cell 0
          simp at l0
          have HX := Lib.hid hx; have HR := Lib.hid hr; have HZ2 := Lib.hid hz; have HP1 := Lib.hid ho1; have HP2 := Lib.hid ho2; have HL2 := Lib.hid hl; have HB2 := Lib.hid hb
          clear hx hr hz ho1 ho2 hl hb
          by_cases hlt : i < 9
          · go_wp2_with fail
            refine (cmove_any p m a b _ _ _ HZ2.out HR.out).mono ?_
            rintro e w1 ⟨rfl, h1, h2⟩
            have HP3 := Lib.hid (HP1.out.only h2 (by simp; omega)); have HP4 := Lib.hid (HP2.out.only h2 (by simp; omega)); have HL3 := Lib.hid (HL2.out.only h2 (by simp; omega)); have HB3 := Lib.hid (below_only HB2.out (Nat.le_refl _) h2 (fun k hk => by simp at hk; omega)); have HZ3 := Lib.hid h1
            clear h1 h2
            by_cases hend : (x.1.move x.2).1.ended = true
            · have HE : Hid (x.1.move x.2 = runs 9 (OpS.wait 0 7 5, awM)) := by
                have h := HX.out
                rw [show 9 - i = (9 - i - 1) + 1 from by omega, runs, if_pos hend] at h
                exact h
              have HEND := Lib.hid hend
              rw [hend]
              clear hend
              go_wp2_with fail
              go_roundw
              case rel =>
                refine ⟨0 + 1, by omega, rfl, ?_⟩
                have h := HZ3.out
                rw [HE.out] at h
                exact ⟨h.mem, h.op, HP3.out, HP4.out, HL3.out, HB3.out⟩
              case measure => simp [intOf]
            · have hend' := eq_false_of_ne_true hend
              have HE : Hid (runs (9 - (i + 1)) (x.1.move x.2) = runs 9 (OpS.wait 0 7 5, awM)) := by
                have h := HX.out
                rw [show 9 - i = (9 - (i + 1)) + 1 from by omega, runs, if_neg hend] at h
                exact h
              rw [hend']
              clear hend hend'
              go_wp2_with fail
              go_roundw
              case rel => exact ⟨i + 1, x.1.move x.2, by omega, by go_num, HE.out, OpS.right_move _ HR.out, HZ3.out, HP3.out, HP4.out, HL3.out, HB3.out⟩
              case measure => simp [intOf]; omega
          · have HE : Hid (x = runs 9 (OpS.wait 0 7 5, awM)) := by
              have h := HX.out
              rw [show 9 - i = 0 from by omega] at h
              exact h
            go_wp2_with fail
            go_roundw
            case rel =>
              refine ⟨0 + 1, by omega, rfl, ?_⟩
              have h := HZ2.out
              rw [HE.out] at h
              exact ⟨h.mem, h.op, HP1.out, HP2.out, HL2.out, HB2.out⟩
            case measure => simp [intOf]
      · -- round 1
        rw [show ((1 : Nat) : Int) = (1 : Int) from rfl]
        have HZ : Hid (HasOp wr q m a b (OpS.fill 0 5 0) awT1) := ⟨h.opB, h.mem, by omega, by omega, by omega⟩
        have HO1 : Hid (Blk wr p (((runs 9 (OpS.wait 0 7 5, awM)).1).cells p) 66) := h.opA
        have HO2 : Hid (Blk wr r ((OpS.wait 0 8 6).cells r) 66) := h.opC
        have HL := Lib.hid h.row
        have HB := Lib.hid h.bel
        clear h
        obtain ⟨wo, rfl⟩ : ∃ wo : World, wo = wr := ⟨_, rfl⟩
        go_wp2_with fail
        go_loopw [6] (fun t wr => ∃ (i : Nat) (x : OpS × MemS), i ≤ 9 ∧ t = .int .i64 i ∧ runs (9 - i) x = runs 9 (OpS.fill 0 5 0, awT1) ∧ x.1.right ∧ HasOp wr q m a b x.1 x.2 ∧ Blk wr p (((runs 9 (OpS.wait 0 7 5, awM)).1).cells p) 66 ∧ Blk wr r ((OpS.wait 0 8 6).cells r) 66 ∧ Blk wr l [.pointer (some ⟨p, 0, none⟩), .pointer (some ⟨q, 0, none⟩), .pointer (some ⟨r, 0, none⟩)] 38 ∧ Below w.heap.size w wr) (fun t _ => 9 - (intOf t).toNat)
        case atStart => exact ⟨0, (OpS.fill 0 5 0, awT1), by omega, rfl, rfl, ⟨Or.inr (Or.inr (Or.inr (Or.inr (Or.inr (Or.inl rfl))))), by decide, by decide⟩, HZ.out, HO1.out, HO2.out, HL.out, HB.out⟩
        case round =>
          obtain ⟨i, x, hi, rfl, hx, hr, hz, ho1, ho2, hl, hb⟩ := hrel
          have l1 := hl.cell 1
          simp at l1
          have HX := Lib.hid hx; have HR := Lib.hid hr; have HZ2 := Lib.hid hz; have HP1 := Lib.hid ho1; have HP2 := Lib.hid ho2; have HL2 := Lib.hid hl; have HB2 := Lib.hid hb
          clear hx hr hz ho1 ho2 hl hb
          by_cases hlt : i < 9
          · go_wp2_with fail
            refine (cmove_any q m a b _ _ _ HZ2.out HR.out).mono ?_
            rintro e w1 ⟨rfl, h1, h2⟩
            have HP3 := Lib.hid (HP1.out.only h2 (by simp; omega)); have HP4 := Lib.hid (HP2.out.only h2 (by simp; omega)); have HL3 := Lib.hid (HL2.out.only h2 (by simp; omega)); have HB3 := Lib.hid (below_only HB2.out (Nat.le_refl _) h2 (fun k hk => by simp at hk; omega)); have HZ3 := Lib.hid h1
            clear h1 h2
            by_cases hend : (x.1.move x.2).1.ended = true
            · have HE : Hid (x.1.move x.2 = runs 9 (OpS.fill 0 5 0, awT1)) := by
                have h := HX.out
                rw [show 9 - i = (9 - i - 1) + 1 from by omega, runs, if_pos hend] at h
                exact h
              have HEND := Lib.hid hend
              rw [hend]
              clear hend
              go_wp2_with fail
              go_roundw
              case rel =>
                refine ⟨1 + 1, by omega, rfl, ?_⟩
                have h := HZ3.out
                rw [HE.out] at h
                exact ⟨h.mem, HP3.out, h.op, HP4.out, HL3.out, HB3.out⟩
              case measure => simp [intOf]
            · have hend' := eq_false_of_ne_true hend
              have HE : Hid (runs (9 - (i + 1)) (x.1.move x.2) = runs 9 (OpS.fill 0 5 0, awT1)) := by
                have h := HX.out
                rw [show 9 - i = (9 - (i + 1)) + 1 from by omega, runs, if_neg hend] at h
                exact h
              rw [hend']
              clear hend hend'
              go_wp2_with fail
              go_roundw
              case rel => exact ⟨i + 1, x.1.move x.2, by omega, by go_num, HE.out, OpS.right_move _ HR.out, HZ3.out, HP3.out, HP4.out, HL3.out, HB3.out⟩
              case measure => simp [intOf]; omega
          · have HE : Hid (x = runs 9 (OpS.fill 0 5 0, awT1)) := by
              have h := HX.out
              rw [show 9 - i = 0 from by omega] at h
              exact h
            go_wp2_with fail
            go_roundw
            case rel =>
              refine ⟨1 + 1, by omega, rfl, ?_⟩
              have h := HZ2.out
              rw [HE.out] at h
              exact ⟨h.mem, HP1.out, h.op, HP2.out, HL2.out, HB2.out⟩
            case measure => simp [intOf]
      · -- round 2
        rw [show ((2 : Nat) : Int) = (2 : Int) from rfl]
        have HZ : Hid (HasOp wr r m a b (OpS.wait 0 8 6) awT2) := ⟨h.opC, h.mem, by omega, by omega, by omega⟩
        have HO1 : Hid (Blk wr p (((runs 9 (OpS.wait 0 7 5, awM)).1).cells p) 66) := h.opA
        have HO2 : Hid (Blk wr q (((runs 9 (OpS.fill 0 5 0, awT1)).1).cells q) 66) := h.opB
        have HL := Lib.hid h.row
        have HB := Lib.hid h.bel
        clear h
        obtain ⟨wo, rfl⟩ : ∃ wo : World, wo = wr := ⟨_, rfl⟩
        go_wp2_with fail
        go_loopw [6] (fun t wr => ∃ (i : Nat) (x : OpS × MemS), i ≤ 9 ∧ t = .int .i64 i ∧ runs (9 - i) x = runs 9 (OpS.wait 0 8 6, awT2) ∧ x.1.right ∧ HasOp wr r m a b x.1 x.2 ∧ Blk wr p (((runs 9 (OpS.wait 0 7 5, awM)).1).cells p) 66 ∧ Blk wr q (((runs 9 (OpS.fill 0 5 0, awT1)).1).cells q) 66 ∧ Blk wr l [.pointer (some ⟨p, 0, none⟩), .pointer (some ⟨q, 0, none⟩), .pointer (some ⟨r, 0, none⟩)] 38 ∧ Below w.heap.size w wr) (fun t _ => 9 - (intOf t).toNat)
        case atStart => exact ⟨0, (OpS.wait 0 8 6, awT2), by omega, rfl, rfl, ⟨Or.inl rfl, by decide, by decide⟩, HZ.out, HO1.out, HO2.out, HL.out, HB.out⟩
        case round =>
          obtain ⟨i, x, hi, rfl, hx, hr, hz, ho1, ho2, hl, hb⟩ := hrel
          have l2 := hl.cell 2
          simp at l2
          have HX := Lib.hid hx; have HR := Lib.hid hr; have HZ2 := Lib.hid hz; have HP1 := Lib.hid ho1; have HP2 := Lib.hid ho2; have HL2 := Lib.hid hl; have HB2 := Lib.hid hb
          clear hx hr hz ho1 ho2 hl hb
          by_cases hlt : i < 9
          · go_wp2_with fail
            refine (cmove_any r m a b _ _ _ HZ2.out HR.out).mono ?_
            rintro e w1 ⟨rfl, h1, h2⟩
            have HP3 := Lib.hid (HP1.out.only h2 (by simp; omega)); have HP4 := Lib.hid (HP2.out.only h2 (by simp; omega)); have HL3 := Lib.hid (HL2.out.only h2 (by simp; omega)); have HB3 := Lib.hid (below_only HB2.out (Nat.le_refl _) h2 (fun k hk => by simp at hk; omega)); have HZ3 := Lib.hid h1
            clear h1 h2
            by_cases hend : (x.1.move x.2).1.ended = true
            · have HE : Hid (x.1.move x.2 = runs 9 (OpS.wait 0 8 6, awT2)) := by
                have h := HX.out
                rw [show 9 - i = (9 - i - 1) + 1 from by omega, runs, if_pos hend] at h
                exact h
              have HEND := Lib.hid hend
              rw [hend]
              clear hend
              go_wp2_with fail
              go_roundw
              case rel =>
                refine ⟨2 + 1, by omega, rfl, ?_⟩
                have h := HZ3.out
                rw [HE.out] at h
                exact ⟨h.mem, HP3.out, HP4.out, h.op, HL3.out, HB3.out⟩
              case measure => simp [intOf]
            · have hend' := eq_false_of_ne_true hend
              have HE : Hid (runs (9 - (i + 1)) (x.1.move x.2) = runs 9 (OpS.wait 0 8 6, awT2)) := by
                have h := HX.out
                rw [show 9 - i = (9 - (i + 1)) + 1 from by omega, runs, if_neg hend] at h
                exact h
              rw [hend']
              clear hend hend'
              go_wp2_with fail
              go_roundw
              case rel => exact ⟨i + 1, x.1.move x.2, by omega, by go_num, HE.out, OpS.right_move _ HR.out, HZ3.out, HP3.out, HP4.out, HL3.out, HB3.out⟩
              case measure => simp [intOf]; omega
          · have HE : Hid (x = runs 9 (OpS.wait 0 8 6, awT2)) := by
              have h := HX.out
              rw [show 9 - i = 0 from by omega] at h
              exact h
            go_wp2_with fail
            go_roundw
            case rel =>
              refine ⟨2 + 1, by omega, rfl, ?_⟩
              have h := HZ2.out
              rw [HE.out] at h
              exact ⟨h.mem, HP1.out, HP2.out, h.op, HL2.out, HB2.out⟩
            case measure => simp [intOf]
    · obtain rfl : k = 3 := by omega
      have HA := Lib.hid (⟨h.opA, h.mem, by omega, by omega, by omega⟩ : HasOp wr p m a b (awA 3) (awT 3))
      have HB := Lib.hid (⟨h.opB, h.mem, by omega, by omega, by omega⟩ : HasOp wr q m a b (awB 3) (awT 3))
      have HC := Lib.hid (⟨h.opC, h.mem, by omega, by omega, by omega⟩ : HasOp wr r m a b (awC 3) (awT 3))
      have HL := Lib.hid h.row
      have HBel := Lib.hid h.bel
      have c0 := h.row.cell 0
      simp at c0
      have EA : (awA 3).endV = .tuple #[.agg #[.bool true, .int .i64 0, .int .i64 0, .int .i64 0], .int .i64 0] := by kernel_rfl
      have EB : (awB 3).endV = .tuple #[.agg #[.bool false, .int .i64 0, .int .i64 0, .int .i64 7], .int .i64 0] := by kernel_rfl
      have EC : (awC 3).endV = .tuple #[.agg #[.bool false, .int .i64 5, .int .i64 0, .int .i64 0], .int .i64 0] := by kernel_rfl
      clear h
      go_wp2_with fail
      refine (cend_any p m a b _ _ _ HA.out).mono ?_
      rintro e w8 ⟨rfl, ho⟩
      rw [EA]
      have HB2 := Lib.hid (HB.out.op.only ho (by simp)); have HC2 := Lib.hid (HC.out.op.only ho (by simp)); have HM2 := Lib.hid (HB.out.mem.only ho (by simp) (by simp) (by simp)); have hl8 := HL.out.only ho (by simp)
      have c1 := hl8.cell 1
      simp at c1
      have HL8 := Lib.hid hl8; have HBel8 := Lib.hid (below_only HBel.out (Nat.le_refl _) ho (by simp)); have hs8 := HL8.out.lt; clear ho hl8
      go_wp2_with fail
      refine (cend_any q m a b (awB 3) (awT 3) _ ⟨HB2.out.alloc _, HM2.out.alloc _, by omega, by omega, by omega⟩).mono ?_
      rintro e w9 ⟨rfl, ho⟩
      rw [EB]
      have HC3 := Lib.hid ((HC2.out.alloc _).only ho (by simp)); have HM3 := Lib.hid ((HM2.out.alloc _).only ho (by simp) (by simp) (by simp)); have hl9 := (HL8.out.alloc _).only ho (by simp)
      have hd1 := (Blk.new w8 [.bool true, .int .i64 0, .int .i64 0, .int .i64 0] 45).only ho (by simp)
      have c2 := hl9.cell 2
      simp at c2
      have HL9 := Lib.hid hl9; have HD1 := Lib.hid hd1; have HBel9 := Lib.hid (below_only (HBel8.out.alloc HBel8.out.size _) (Nat.le_refl _) ho (by simp)); have hs9 := HL9.out.lt; have hs9' := HD1.out.lt; clear ho hl9 hd1
      go_wp2_with fail
      refine (cend_any r m a b (awC 3) (awT 3) _ ⟨HC3.out.alloc _, HM3.out.alloc _, by omega, by omega, by omega⟩).mono ?_
      rintro e w10 ⟨rfl, ho⟩
      rw [EC]
      have hd1 := (HD1.out.alloc _).only ho (by simp)
      have hd2 := (Blk.new w9 [.bool false, .int .i64 0, .int .i64 0, .int .i64 7] 45).only ho (by simp)
      have d1 := hd1.cell 0
      have d2 := hd2.cell 3
      simp at d1 d2
      have HBel10 := Lib.hid (below_only (HBel9.out.alloc HBel9.out.size _) (Nat.le_refl _) ho (by simp)); have hs10 := hd1.lt; have hs11 := hd2.lt; clear ho hd1 hd2
      go_wp2_with fail
      go_ret
      exact ⟨rfl, HBel10.out.alloc HBel10.out.size _⟩

end Go.Proofs.Ytglifjecihmbhaa
