/- Layer 9: the law's settle: who has an operation ends it; then pops until none hands anything out. -/
import Derived.Test.YtlogmfpnjpamgaaDeqK
import Derived.Test.YtlogmfpnjpamgaaOnceH
open Go Go.RowKit
namespace Go.Proofs.Ytlogmfpnjpamgaa

section
variable {w0 w w1 : World} {v kind room N i : Nat} {A : AW}

theorem Good.below (h : Good w0 w v kind room N A) : Below w0.heap.size w0 w := by
  obtain ⟨⟨Y, fv, hv, hva, rfl⟩, _⟩ := h
  exact hva.bel
theorem Good.only0 (h : Good w0 w v kind room N A) (ho : Only [] w w1) : Good w0 w1 v kind room N A := by
  obtain ⟨⟨Y, fv, hv, hva, rfl⟩, h1, h2, h3, h4⟩ := h
  exact ⟨⟨Y, fv, hv, hva.only0 ho, rfl⟩, h1, h2, h3, h4⟩
theorem Good.nohand (h : Good w0 w v kind room N A) (hi : i < 4) (e : A.h i = none) : w.cell? ⟨v, 5 + i * 2, none⟩ = some (.pointer none) := by
  obtain ⟨⟨Y, fv, hv, hva, rfl⟩, _⟩ := h
  rcases hva.hs i hi with ⟨a, _⟩ | ⟨p, q, o, d, a1, a2, a3, _⟩
  · have := hva.cellO hi; rw [a] at this; exact this
  · rw [e] at a3; cases a3
theorem Good.hand (h : Good w0 w v kind room N A) (hi : i < 4) {o : DOp} (e : A.h i = some o) : ∃ p, w.cell? ⟨v, 5 + i * 2, none⟩ = some (.pointer (some ⟨p, 0, none⟩)) := by
  obtain ⟨⟨Y, fv, hv, hva, rfl⟩, _⟩ := h
  rcases hva.hs i hi with ⟨_, _, a, _⟩ | ⟨p, q, o, d, a1, a2, a3, _⟩
  · rw [e] at a; cases a
  · have := hva.cellO hi; rw [a1] at this; exact ⟨p, this⟩
theorem Good.rows (h : Good w0 w v kind room N A) : ∃ a c a' c', w.cell? ⟨v, 14, none⟩ = some (.slice a A.full.length c) ∧ w.cell? ⟨v, 15, none⟩ = some (.slice a' A.handed.length c') ∧ w.cell? ⟨v, 13, none⟩ = some (.int .i64 A.pushed) ∧
    OwnI w w0.heap.size (.slice a A.full.length c) A.full ∧ OwnI w w0.heap.size (.slice a' A.handed.length c') A.handed ∧ v < w.heap.size := by
  obtain ⟨⟨Y, fv, hv, hva, rfl⟩, _⟩ := h
  obtain ⟨a, c, rfl⟩ := own_form hva.rowf.1
  obtain ⟨a', c', rfl⟩ := own_form hva.rowh.1
  exact ⟨a, c, a', c', hva.top.cell 14, hva.top.cell 15, hva.top.cell 13, hva.rowf.1, hva.rowh.1, hva.top.lt⟩
end

section
variable {kind room N i j : Nat} {A : AW}

/-- One who has an operation moves. -/
theorem hand_step (hk : kind = 1 ∨ kind = 2 ∨ kind = 3) (hA : All kind room N A) {o : DOp} (ho : A.h j = some o) (hi : i ≤ o.next) (hn : ∀ i', j + 1 ≤ i' → A.h i' = none) (pop : Bool) :
    i ≤ 6 ∧ (∀ i', j + 1 ≤ i' → (A.move kind room j pop).h i' = none) ∧ ∀ o', (A.move kind room j pop).h j = some o' → i + 1 ≤ o'.next := by
  have em : A.move kind room j pop = A.stp kind room j o := by
    unfold AW.move
    rw [AW.beg_some ho]
    simp only [AW.op, ho]
  obtain ⟨hok, he, _⟩ := hA.ok j o ho
  obtain ⟨s1, s2⟩ := step_next (D := A.D) hk hok he
  rw [em]
  refine ⟨by omega, fun i' h' => ?_, fun o' h' => ?_⟩
  · unfold AW.stp; rw [AW.fin_ne _ _ _ _ (by omega)]; exact hn i' h'
  · unfold AW.stp at h'
    rw [AW.fin_h] at h'
    split at h'
    · cases h'
    · injection h' with h'; subst h'; omega

theorem size_beg (hk : kind = 1 ∨ kind = 2 ∨ kind = 3) (h : A.h 0 = none) : size kind (A.beg 0 true) = size kind A := by
  have e : (A.beg 0 true).h 0 = some (DOp.new 1 0) := by rw [AW.beg_h]; simp [AW.op, h]
  have d : (A.beg 0 true).D = A.D := rfl
  unfold size
  rw [e, d, h]
  rfl

/-- One move of the owner's pop. -/
theorem turn_step (hk : kind = 1 ∨ kind = 2 ∨ kind = 3) (hr1 : 1 ≤ room) (hr : room ≤ 1000) (hA : All kind room N A) (hI : Inv kind room A) (hn : ∀ i', 1 ≤ i' → A.h i' = none) (hh : (i = 0 ∧ A.h 0 = none) ∨ ∃ o, A.h 0 = some o ∧ o.what = 1 ∧ i ≤ o.next) :
    i ≤ 6 ∧ (∀ i', 1 ≤ i' → (A.move kind room 0 true).h i' = none) ∧
    (((∃ o, (A.move kind room 0 true).h 0 = some o ∧ o.what = 1 ∧ i + 1 ≤ o.next) ∧ size kind (A.move kind room 0 true) = size kind A ∧ (A.move kind room 0 true).handed = A.handed) ∨
     ((A.move kind room 0 true).h 0 = none ∧ size kind (A.move kind room 0 true) + 1 = size kind A ∧ (A.move kind room 0 true).handed.length = A.handed.length + 1) ∨
     ((A.move kind room 0 true).h 0 = none ∧ size kind (A.move kind room 0 true) = 0 ∧ (A.move kind room 0 true).handed = A.handed)) := by
  have hb := hA.beg 0 true
  have hbi := hI.beg 0 true
  have hop := A.beg_h 0 true
  obtain ⟨o, ho⟩ : ∃ o, o = A.op 0 true := ⟨_, rfl⟩
  have hnx : i ≤ o.next ∧ o.what = 1 := by
    rw [ho]
    rcases hh with ⟨rfl, h0⟩ | ⟨o', h0, hw, hi⟩
    · simp [AW.op, h0, DOp.new]
    · simp only [AW.op, h0]; exact ⟨hi, hw⟩
  have hsz : size kind (A.beg 0 true) = size kind A := by
    rcases hh with ⟨_, h0⟩ | ⟨o', h0, _⟩
    · exact size_beg hk h0
    · rw [AW.beg_some h0]
  have em : A.move kind room 0 true = (A.beg 0 true).stp kind room 0 o := by rw [ho]; rfl
  have hhd : (A.beg 0 true).handed = A.handed := rfl
  rw [← ho] at hop
  have hne : ∀ i', 1 ≤ i' → (A.beg 0 true).h i' = none := fun i' h' => by rw [AW.beg_ne _ _ _ (by omega)]; exact hn i' h'
  rw [em, ← hsz, ← hhd]
  clear em hsz hhd hh hA hI hn ho
  generalize A.beg 0 true = B at *
  obtain ⟨hok, he, _⟩ := hb.ok 0 o hop
  obtain ⟨s1, s2⟩ := step_next (D := B.D) hk hok he
  obtain ⟨p1, p2⟩ := pop_spec hk hr hbi hb hop hnx.2
  have hwh := step_what kind room B.D o
  refine ⟨by omega, fun i' h' => ?_, ?_⟩
  · unfold AW.stp; rw [AW.fin_ne _ _ _ _ (by omega)]; exact hne i' h'
  · have e0 : (B.stp kind room 0 o).h 0 = if (o.step kind room B.D).1.ended = true then none else some (o.step kind room B.D).1 := by unfold AW.stp; rw [AW.fin_h]
    have e1 : (B.stp kind room 0 o).handed = if (o.step kind room B.D).1.ended = true ∧ (o.step kind room B.D).1.why = 0 ∧ 0 < (o.step kind room B.D).1.what then B.handed ++ [(o.step kind room B.D).1.result] else B.handed := rfl
    rw [e0, e1, hwh]
    by_cases hend : (o.step kind room B.D).1.ended = true
    · rw [if_pos hend]
      rcases p2 hend with ⟨q1, q2⟩ | ⟨q1, q2⟩
      · refine .inr (.inl ⟨rfl, q2, ?_⟩)
        rw [if_pos ⟨hend, q1, by omega⟩]
        simp
      · refine .inr (.inr ⟨rfl, q2, ?_⟩)
        rw [if_neg (fun h => by have := h.2.1; omega)]
    · rw [if_neg hend]
      refine .inl ⟨⟨_, rfl, by rw [hwh]; exact hnx.2, by omega⟩, p1 (by simpa using hend), ?_⟩
      rw [if_neg (fun h => hend h.1)]
end

section
variable {w0 w : World} {v kind room N : Nat} {A : AW}

theorem Good.pop (h : Good w0 w v kind room N A) (hk : kind = 1 ∨ kind = 2 ∨ kind = 3) (hr1 : 1 ≤ room) (hr : room ≤ 1000) (hN : N ≤ 99999) :
    Calls Try.prog 15 #[.pointer (some ⟨v, 0, none⟩), .agg #[.int .u8 0, .bool true]] w fun e w' => e = .returned (.bool true) ∧ Good w0 w' v kind room (N + 1) (A.move kind room 0 true) :=
  h.move hk hr1 hr hN 0 true (by omega)
theorem Good.thief (h : Good w0 w v kind room N A) (hk : kind = 1 ∨ kind = 2 ∨ kind = 3) (hr1 : 1 ≤ room) (hr : room ≤ 1000) (hN : N ≤ 99999) (j : Nat) (hj : j < 4) :
    Calls Try.prog 15 #[.pointer (some ⟨v, 0, none⟩), .agg #[.int .u8 j, .bool false]] w fun e w' => e = .returned (.bool true) ∧ Good w0 w' v kind room (N + 1) (A.move kind room j false) := by
  have := h.move hk hr1 hr hN j false (by omega)
  rwa [Nat.mod_eq_of_lt hj] at this

/-- All is settled. -/
def Settled (w0 : World) (v kind room : Nat) (w : World) : Prop := ∃ (A : AW) (N : Nat), N ≤ 1000 ∧ Good w0 w v kind room N A ∧ (∀ i, A.h i = none) ∧ size kind A = 0

set_option maxRecDepth 100000 in
set_option maxHeartbeats 2000000 in
theorem settle_any (h : Good w0 w v kind room N A) (hk : kind = 1 ∨ kind = 2 ∨ kind = 3) (hr1 : 1 ≤ room) (hr : room ≤ 6) (hN : N ≤ 300) :
    Calls Try.prog 17 #[.pointer (some ⟨v, 0, none⟩)] w fun e w' => e = .returned (.bool true) ∧ Settled w0 v kind room w' := by
  have HK := Lib.hid hk
  have HG := Lib.hid h
  have HR : Hid (1 ≤ room ∧ room ≤ 6) := Lib.hid ⟨hr1, hr⟩
  clear h hk hr1 hr
  go_enter Try.func17, Try.ntmps17
  go_wp2_with fail
  go_loopw [3] (fun t wr => ∃ (k M : Nat) (A : AW), k ≤ 4 ∧ t = .int .i64 ((k : Int) - 1) ∧ Good w0 wr v kind room M A ∧ M ≤ 300 + 20 * (4 - k) ∧ ∀ i, k ≤ i → A.h i = none) (fun t _ => (intOf t + 1).toNat)
  case atStart => exact ⟨4, N, A, by omega, rfl, HG.out, by omega, HG.out.out⟩
  case round =>
    obtain ⟨k, M, A, hk4, ht, hg, hM, hno⟩ := hrel
    clear HG
    have HG := Lib.hid hg; have HNO := Lib.hid hno; clear hg hno
    rcases k with _ | j
    · rw [show (((0 : Nat) : Int) - 1) = -1 from rfl] at ht
      subst ht
      obtain ⟨wo, rfl⟩ : ∃ wo : World, wo = wr := ⟨_, rfl⟩
      go_wp2_with fail
      go_loopw [5] (fun t wr => ∃ (c M : Nat) (A : AW), t = .int .i64 c ∧ Good w0 wr v kind room M A ∧ M ≤ 400 + 20 * c ∧ (∀ i, A.h i = none) ∧ c + size kind A ≤ 6) (fun t _ => 20 - (intOf t).toNat)
      case atStart => exact ⟨0, M, A, rfl, HG.out, by omega, fun i => HNO.out i (Nat.zero_le _), by have := size_le HK.out HG.out.inv HG.out.all; have := HR.out.2; omega⟩
      case round =>
        clear HG HNO
        obtain ⟨c, M, A, rfl, hg, hM, hno, hsz⟩ := hrel
        have hc20 : (c : Int) < 20 := by omega
        obtain ⟨_, _, a', c', c14, c15, c13, o14, o15, vl⟩ := hg.rows
        clear o14 o15 c14 c13
        have HG := Lib.hid hg; have HNO := Lib.hid hno; clear hg hno
        obtain ⟨wq, rfl⟩ : ∃ wq : World, wq = wr := ⟨_, rfl⟩
        go_wp2_with fail
        clear c15 vl
        go_loopw [7] (fun t wr => ∃ (i M' : Nat) (A' : AW), t = .int .i64 i ∧ i ≤ 7 ∧ Good w0 wr v kind room M' A' ∧ M' ≤ 400 + 20 * c + i ∧ (∀ i', 1 ≤ i' → A'.h i' = none) ∧ ((i = 0 ∧ A'.h 0 = none) ∨ ∃ o, A'.h 0 = some o ∧ o.what = 1 ∧ i ≤ o.next) ∧ size kind A' = size kind A ∧ A'.handed = A.handed) (fun t _ => 20 - (intOf t).toNat)
        case atStart => exact ⟨0, M, A, rfl, by omega, HG.out, by omega, fun i' _ => HNO.out i', .inl ⟨rfl, HNO.out 0⟩, rfl, rfl⟩
        case round =>
          clear HG HNO
          obtain ⟨i, M', A', rfl, hi7, hg, hM', hno', hh, hs', hd'⟩ := hrel
          have hi20 : (i : Int) < 20 := by omega
          obtain ⟨t1, t2, t3⟩ := turn_step HK.out HR.out.1 (Nat.le_trans HR.out.2 (by omega)) hg.all hg.inv hno' hh
          have T2 := Lib.hid t2
          have C := Lib.hid (hg.pop HK.out HR.out.1 (Nat.le_trans HR.out.2 (by omega)) (by omega))
          rw [hs', hd'] at t3
          clear hg hno' hh hs' hd' t2
          generalize A'.move kind room 0 true = A2 at T2 C t3
          clear A'
          go_wp2_with fail
          refine C.out.mono ?_
          rintro e w2 ⟨rfl, hg⟩
          clear C
          have HG := Lib.hid hg
          obtain ⟨_, _, a2, c2, c14, c15, c13, o14, o15, vl⟩ := hg.rows
          clear c14 c13 o14 o15
          rcases t3 with ⟨⟨o, e1, e2, e3⟩, e4, e5⟩ | ⟨e1, e2, e3⟩ | ⟨e1, e2, e3⟩
          · obtain ⟨p, cc⟩ := hg.hand (i := 0) (by omega) e1
            have cp : w2.cell? ⟨v, 5, none⟩ = some (.pointer (some ⟨p, 0, none⟩)) := cc
            have HE : Hid (((i + 1 = 0 ∧ A2.h 0 = none) ∨ ∃ o, A2.h 0 = some o ∧ o.what = 1 ∧ i + 1 ≤ o.next) ∧ size kind A2 = size kind A ∧ A2.handed = A.handed) := Lib.hid ⟨.inr ⟨o, e1, e2, e3⟩, e4, e5⟩
            clear hg cc e1 e2 e3 e4 e5 c15
            go_wp2_with fail
            go_roundw
            case rel => exact ⟨i + 1, _, _, by go_num, by omega, HG.out, by omega, T2.out, HE.out.1, HE.out.2.1, HE.out.2.2⟩
            case measure => first | (simp [intOf]; done) | (simp [intOf]; omega)
          · have cp : w2.cell? ⟨v, 5, none⟩ = some (.pointer none) := hg.nohand (i := 0) (by omega) e1
            have hb : (A2.handed.length == A.handed.length) = false := by simp; omega
            have HE : Hid (∀ i, A2.h i = none) := Lib.hid (fun i => by
              by_cases h0 : i = 0
              · rw [h0]; exact e1
              · exact T2.out i (by omega))
            clear hg e1 e3
            generalize A2.handed.length = L2 at c15 hb
            go_wp2_with fail
            go_roundw
            case rel => exact ⟨c + 1, _, _, by go_num, HG.out, by omega, HE.out, by omega⟩
            case measure => first | (simp [intOf]; done) | (simp [intOf]; omega)
          · have cp : w2.cell? ⟨v, 5, none⟩ = some (.pointer none) := hg.nohand (i := 0) (by omega) e1
            have HE : Hid ((∀ i, A2.h i = none) ∧ size kind A2 = 0) := Lib.hid ⟨fun i => by
              by_cases h0 : i = 0
              · rw [h0]; exact e1
              · exact T2.out i (by omega), e2⟩
            rw [e3] at c15
            clear hg e1 e3 e2
            go_wp2_with fail
            go_ret
            exact ⟨rfl, A2, _, by omega, HG.out, HE.out.1, HE.out.2⟩
    · have e : ((j + 1 : Nat) : Int) - 1 = j := by omega
      rw [e] at ht
      subst ht
      clear e
      obtain ⟨wo, rfl⟩ : ∃ wo : World, wo = wr := ⟨_, rfl⟩
      go_wp2_with fail
      go_loopw [4] (fun t wr => ∃ (i M : Nat) (A : AW), t = .int .i64 i ∧ i ≤ 7 ∧ Good w0 wr v kind room M A ∧ M ≤ 300 + 20 * (3 - j) + i ∧ (∀ i', j + 1 ≤ i' → A.h i' = none) ∧ ∀ o, A.h j = some o → i ≤ o.next) (fun t _ => 20 - (intOf t).toNat)
      case atStart => exact ⟨0, M, A, rfl, by omega, HG.out, by omega, HNO.out, fun o _ => Nat.zero_le _⟩
      case round =>
        clear HG HNO
        obtain ⟨i, M, A, rfl, hi7, hg, hM, hno, hin⟩ := hrel
        have HG := Lib.hid hg; have HNO := Lib.hid hno
        have hi20 : (i : Int) < 20 := by omega
        obtain ⟨_, _, _, _, c14, c15, c13, o14, o15, vl⟩ := hg.rows
        clear c14 c15 c13 o14 o15
        cases hh : A.h j with
        | none =>
          have c := hg.nohand (i := j) (by omega) hh
          have HH := Lib.hid hh
          clear hg hh hin hno
          go_wp2_with fail
          go_roundw
          case rel => exact ⟨j, M, A, by omega, rfl, HG.out, by omega, fun i' h' => by
            by_cases e : i' = j
            · rw [e]; exact HH.out
            · exact HNO.out i' (by omega)⟩
          case measure => first | (simp [intOf]; done) | (simp [intOf]; omega)
        | some o =>
          obtain ⟨p, c⟩ := hg.hand (i := j) (by omega) hh
          obtain ⟨s1, s2, s3⟩ := hand_step HK.out hg.all hh (hin o hh) hno false
          have HS := Lib.hid (And.intro s2 s3)
          have C := Lib.hid (hg.thief HK.out HR.out.1 (Nat.le_trans HR.out.2 (by omega)) (by omega) j (by omega))
          clear hg hh hin s2 s3 HG HNO hno
          go_wp2_with fail
          refine C.out.mono ?_
          rintro e w2 ⟨rfl, hg⟩
          have HG := Lib.hid hg; clear hg C
          go_wp2_with fail
          go_roundw
          case rel => exact ⟨i + 1, _, _, by go_num, by omega, HG.out, by omega, HS.out.1, HS.out.2⟩
          case measure => first | (simp [intOf]; done) | (simp [intOf]; omega)
end

end Go.Proofs.Ytlogmfpnjpamgaa
