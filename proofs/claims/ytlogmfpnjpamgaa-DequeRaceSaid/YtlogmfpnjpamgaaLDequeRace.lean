/- DequeRace returns true, whatever the kind, the room and the order are. -/
import Derived.Test.YtlogmfpnjpamgaaLDequeSteals
import Derived.Test.YtlogmfpnjpamgaaLDequeWraps
open Go Go.RowKit
namespace Go.Proofs.Ytlogmfpnjpamgaa

/-- Two thieves' moves, one each, k times: the first one's, the second one's, the words. -/
def duel (kind room : Nat) : Nat → Dq → DOp → DOp → DOp × DOp × Dq
  | 0, D, p, q => (p, q, D)
  | k + 1, D, p, q => duel kind room k ((q.step kind room (p.step kind room D).2).2) (p.step kind room D).1 (q.step kind room (p.step kind room D).2).1

theorem duel_succ (kind room k : Nat) (D : Dq) (p q : DOp) : duel kind room (k + 1) D p q = duel kind room k ((q.step kind room (p.step kind room D).2).2) (p.step kind room D).1 (q.step kind room (p.step kind room D).2).1 := rfl

/-- What the race comes to: the first one has the number, the second one was too late; what is left is there. -/
theorem duel_ends {kind room used : Nat} {D : Dq} (hk : kind = 1 ∨ kind = 2 ∨ kind = 3) (hr : 2 ≤ room) (hr2 : room ≤ 1000) (h : Rep kind room (seqL 2) used D) :
    (duel kind room 9 D (DOp.new 2 0) (DOp.new 2 0)).1.tells = .tuple #[.int .i64 (if kind = 2 then 2 else 1), .int .i64 0] ∧
    (duel kind room 9 D (DOp.new 2 0) (DOp.new 2 0)).2.1.tells = .tuple #[.int .i64 0, .int .i64 10] ∧
    ∃ u, Rep kind room (if kind = 2 then [1] else [2]) u (duel kind room 9 D (DOp.new 2 0) (DOp.new 2 0)).2.2 := by
  rcases hk with rfl | rfl | rfl
  · rw [rep1] at h
    obtain ⟨top, h1, h2, h3, h4, h5, h6⟩ := h
    rw [seqL_len] at h4 h6
    have e0 := h6 0 (by omega)
    have e1 := h6 1 (by omega)
    rw [seqL_getD (by omega)] at e0 e1
    have hlt : ¬ D 0 ≤ D 1 % 65536 := by omega
    have ht : (D 1 % 65536).toNat = top := by omega
    have p1 : ∀ v, D.put 1 v 1 = v := fun v => Dq.put_self _ _ _
    have hne : ¬ D 1 + 1 = D 1 := by omega
    have e : duel 1 room 9 D (DOp.new 2 0) (DOp.new 2 0) = (⟨2, 4, D (2 + top), D 0, D 1, true, D (2 + top), 0⟩, ⟨2, 4, D (2 + top), D 0, D 1, true, 0, 10⟩, D.put 1 (D 1 + 1)) := by
      simp [duel, DOp.step, DOp.step1, DOp.new, hlt, ht, p1, hne]
    rw [e]
    refine ⟨?_, rfl, used, ?_⟩
    · simp [DOp.tells]; simpa using e0
    · rw [if_neg (by decide), rep1]
      show Rep1 room [2] used (D.put 1 (D 1 + 1))
      refine ⟨top + 1, ?_, ?_, ?_, by simp; omega, h5, fun i hi => ?_⟩
      · rw [Dq.put_self]; omega
      · rw [Dq.put_self]; omega
      · rw [Dq.put_ne _ _ _ (by omega)]; exact h3
      · simp at hi; subst hi
        rw [Dq.put_ne _ _ _ (by omega)]
        show D (2 + (top + 1 + 0)) = _
        rw [Nat.add_zero, e1]; rfl
  · rw [rep2] at h
    obtain ⟨h1, h2, h3, h4⟩ := h
    rw [seqL_len] at h1 h4
    have e0 := h4 0 (by omega)
    have e1 := h4 1 (by omega)
    rw [seqL_getD (by omega)] at e0 e1
    have hlt : ¬ D 1 % 65536 = 0 := by omega
    have ht : (D 1 % 65536).toNat = 2 := by omega
    have ht1 : (D 1 % 65536 - 1).toNat = 1 := by omega
    have p1 : ∀ v, D.put 1 v 1 = v := fun v => Dq.put_self _ _ _
    have hne : ¬ D 1 - 1 = D 1 := by omega
    have e : duel 2 room 9 D (DOp.new 2 0) (DOp.new 2 0) = (⟨2, 3, D (2 + 1), 0, D 1, true, D (2 + 1), 0⟩, ⟨2, 3, D (2 + 1), 0, D 1, true, 0, 10⟩, D.put 1 (D 1 - 1)) := by
      simp [duel, DOp.step, DOp.step2, DOp.new, hlt, ht, ht1, p1, hne]
    rw [e]
    refine ⟨?_, rfl, used, ?_⟩
    · simp [DOp.tells]; simpa using e1
    · rw [if_pos rfl, rep2]
      show Rep2 room [1] (D.put 1 (D 1 - 1))
      refine ⟨?_, ?_, by simp; omega, fun i hi => ?_⟩
      · rw [Dq.put_self]; simp; omega
      · rw [Dq.put_self]; omega
      · simp at hi; subst hi
        rw [Dq.put_ne _ _ _ (by omega)]
        rw [e0]; rfl
  · rw [rep3] at h
    obtain ⟨hd, h1, h2, h3, h4⟩ := h
    rw [seqL_len] at h2 h4
    have e0 := h4 0 (by omega)
    have e1 := h4 1 (by omega)
    rw [seqL_getD (by omega)] at e0 e1
    have hlt : ¬ D 0 ≤ D 1 := by omega
    have ht : (D 1).toNat = hd := by omega
    have p1 : ∀ v, D.put 1 v 1 = v := fun v => Dq.put_self _ _ _
    have hne : ¬ D 1 + 1 = D 1 := by omega
    have e : duel 3 room 9 D (DOp.new 2 0) (DOp.new 2 0) = (⟨2, 4, D (2 + hd % room), D 0, D 1, true, D (2 + hd % room), 0⟩, ⟨2, 4, D (2 + hd % room), D 0, D 1, true, 0, 10⟩, D.put 1 (D 1 + 1)) := by
      simp [duel, DOp.step, DOp.step3, DOp.new, hlt, ht, p1, hne]
    rw [e]
    refine ⟨?_, rfl, used, ?_⟩
    · simp [DOp.tells]; simpa using e0
    · rw [if_neg (by decide), rep3]
      show Rep3 room [2] (D.put 1 (D 1 + 1))
      refine ⟨hd + 1, ?_, ?_, by simp; omega, fun i hi => ?_⟩
      · rw [Dq.put_self]; omega
      · rw [Dq.put_ne _ _ _ (by omega), h2]; simp; omega
      · simp at hi; subst hi
        rw [Dq.put_ne _ _ _ (by omega)]
        show D (2 + (hd + 1 + 0) % room) = _
        rw [Nat.add_zero, e1]; rfl

/-- Two operations on a deque. -/
structure D2 (w wr : World) (m a b d kind room N o1 o2 : Nat) (s1 s2 : DOp) (D : Dq) : Prop where
  h1 : HW wr wr o1 m a b (s1.prog kind 0 room) D
  b2 : Blk wr o2 ((s2.prog kind 0 room).cells o2) 76
  dq : DqOk kind room N D
  ok1 : s1.Ok kind room N
  ok2 : s2.Ok kind room N
  hd : Blk wr d [.int .i64 kind, .int .i64 0, .int .i64 room] 27
  hb : Below w.heap.size w wr
  hm : w.heap.size ≤ m ∧ w.heap.size ≤ a ∧ w.heap.size ≤ b ∧ w.heap.size ≤ o1 ∧ w.heap.size ≤ o2
  ne : o1 ≠ o2 ∧ o2 ≠ m ∧ o2 ≠ a ∧ o2 ≠ b
  dn : d ≠ m ∧ d ≠ a ∧ d ≠ b ∧ d ≠ o1 ∧ d ≠ o2

section
variable {w wr : World} {m a b d kind room N o1 o2 : Nat} {s1 s2 : DOp} {D : Dq}

theorem D2.swap (h : D2 w wr m a b d kind room N o1 o2 s1 s2 D) : D2 w wr m a b d kind room N o2 o1 s2 s1 D := by
  obtain ⟨⟨⟨c1, c2, c3, c4, c5, c6, c7⟩, f⟩, b2, dq, ok1, ok2, hd, hb, hm, ne, dn⟩ := h
  exact ⟨⟨⟨b2, c2, ne.2.1, ne.2.2.1, ne.2.2.2, c6, c7⟩, Only.refl _ _⟩, c1, dq, ok2, ok1, hd, hb, by omega, ⟨Ne.symm ne.1, c3, c4, c5⟩, by omega⟩

theorem D2.after {S : OpD} {s1' : DOp} {D' : Dq} {w1 : World} {N' : Nat} (h : D2 w wr m a b d kind room N o1 o2 s1 s2 D) (hw : HW wr w1 o1 m a b (s1'.prog kind 0 room) D') (hD : DqOk kind room N' D') (ho : s1'.Ok kind room N') (hn : N ≤ N') : D2 w w1 m a b d kind room N' o1 o2 s1' s2 D' := by
  obtain ⟨_, b2, dq, ok1, ok2, hd, hb, hm, ne, dn⟩ := h
  exact ⟨⟨hw.h, Only.refl _ _⟩, b2.only hw.f (by simp; omega), hD, ho, ok2.mono hn, hd.only hw.f (by simp; omega), below_only4 hb (Nat.le_refl _) hw.f (by omega) (by omega) (by omega) (by omega), hm, ne, dn⟩

theorem D2.move (h : D2 w wr m a b d kind room N o1 o2 s1 s2 D) (hk : kind = 1 ∨ kind = 2 ∨ kind = 3) (hN : N ≤ 900000) :
    Calls Try.prog 22 #[.pointer (some ⟨o1, 0, none⟩), .pointer (some ⟨m, 0, none⟩)] wr (fun e w1 => e = .returned (.bool (s1.step kind room D).1.ended) ∧ D2 w w1 m a b d kind room (N + 1) o1 o2 (s1.step kind room D).1 s2 (s1.step kind room D).2) := by
  have hs := step_ok kind room N D s1 hk h.h1.h.hroom.2 h.dq h.ok1
  refine (dmove_any s1 h.h1 hk h.dq h.ok1 (by omega)).mono ?_
  rintro e w1 ⟨rfl, hw⟩
  exact ⟨rfl, h.after (S := (s1.prog kind 0 room)) hw hs.2 hs.1 (by omega)⟩

theorem D2.ended (h : D2 w wr m a b d kind room N o1 o2 s1 s2 D) :
    Calls Try.prog 23 #[.pointer (some ⟨o1, 0, none⟩)] wr (fun e w1 => e = .returned s1.tells ∧ D2 w w1 m a b d kind room N o1 o2 s1 s2 D) := by
  refine (dend_op h.h1).mono ?_
  rintro e w1 ⟨rfl, hw⟩
  exact ⟨rfl, h.after (S := (s1.prog kind 0 room)) hw h.dq h.ok1 (Nat.le_refl _)⟩

theorem DSO.steal2 {l : List Int} {used o : Nat} (h : DSO w wr m a b d kind room N l used o 2 0) (hk : kind = 1 ∨ kind = 2 ∨ kind = 3) :
    Calls Try.prog 21 #[.agg #[.int .i64 kind, .int .i64 0, .int .i64 room]] wr (fun e w1 => ∃ o', e = .returned (.pointer (some ⟨o', 0, none⟩)) ∧ ∃ D, D2 w w1 m a b d kind room N o o' (DOp.new 2 0) (DOp.new 2 0) D ∧ Rep kind room l used D) := by
  obtain ⟨⟨D, hW, hD, hr⟩, hd, hb, h1, h2, h3⟩ := h
  refine (dsteal_any (kind := kind) (base := 0) (room := room) wr hk).mono ?_
  rintro e w1 ⟨o', rfl, hbo, hso, ho⟩
  have hl := hW.rest.lt
  have hol := hW.h.op.lt
  have hdl := hd.lt
  have hs := hb.size
  exact ⟨o', rfl, D, ⟨⟨(hW.only0 ho).h, Only.refl _ _⟩, hbo, hD, DOp.new_ok _ _ _ _ _ (by omega), DOp.new_ok _ _ _ _ _ (by omega), hd.only ho (by simp), below_only hb (Nat.le_refl _) ho (by simp), by omega, by omega, by omega⟩, hr⟩

theorem DS.drew {l : List Int} {used : Nat} (h : DS w wr m a b d kind room N l used) : DS w wr.drew m a b d kind room N l used := by
  obtain ⟨⟨D, hm, hD, hr⟩, hd, hb, h1, h2⟩ := h
  exact ⟨⟨D, hm.only0 ((Only.refl _ _).drew), hD, hr⟩, hd.drew, hb.drew, h1, h2⟩
theorem D2.ds {l : List Int} {used : Nat} (h : D2 w wr m a b d kind room N o1 o2 s1 s2 D) (hr : Rep kind room l used D) : DS w wr m a b d kind room N l used :=
  ⟨⟨D, h.h1.rest, h.dq, hr⟩, h.hd, h.hb, ⟨h.hm.1, h.hm.2.1, h.hm.2.2.1⟩, ⟨h.dn.1, h.dn.2.1, h.dn.2.2.1⟩⟩
theorem DSO.cells {l : List Int} {used o what : Nat} {x : Int} (h : DSO w wr m a b d kind room N l used o what x) :
    wr.cell? ⟨d, 0, none⟩ = some (.int .i64 kind) ∧ wr.cell? ⟨d, 1, none⟩ = some (.int .i64 0) ∧ wr.cell? ⟨d, 2, none⟩ = some (.int .i64 room) := ⟨h.hd.cell 0, h.hd.cell 1, h.hd.cell 2⟩
theorem D2.cells (h : D2 w wr m a b d kind room N o1 o2 s1 s2 D) :
    wr.cell? ⟨d, 0, none⟩ = some (.int .i64 kind) ∧ wr.cell? ⟨d, 1, none⟩ = some (.int .i64 0) ∧ wr.cell? ⟨d, 2, none⟩ = some (.int .i64 room) := ⟨h.hd.cell 0, h.hd.cell 1, h.hd.cell 2⟩
end

theorem race_pop {k room u : Nat} {D : Dq} (hk : k = 1 ∨ k = 2 ∨ k = 3) (h2 : ¬ k = 2) (h : Rep k room [2] u D) : ∃ u', Runs k room D 1 0 2 0 [] u' := by
  rcases hk with rfl | rfl | rfl
  · exact ⟨_, alone_pop_last (.inl rfl) h (by simp)⟩
  · exact absurd rfl h2
  · exact ⟨_, alone_pop_first h (by simp)⟩
theorem race_pop2 {k room u : Nat} {D : Dq} (h2 : k = 2) (h : Rep k room [1] u D) : ∃ u', Runs k room D 1 0 1 0 [] u' := ⟨_, alone_pop_last (.inr h2) h (by simp)⟩

/-- The race under way. -/
structure Duel (w wr : World) (m a b d kind room o1 o2 : Nat) (D0 : Dq) (i : Nat) : Prop where
  ex : ∃ (s1 s2 : DOp) (D : Dq), D2 w wr m a b d kind room (20 * 2 + 2 * i) o1 o2 s1 s2 D ∧ duel kind room (9 - i) D s1 s2 = duel kind room 9 D0 (DOp.new 2 0) (DOp.new 2 0)

set_option maxRecDepth 100000 in
set_option maxHeartbeats 2000000 in
theorem dequeRace_core (kind room : Nat) (second : Bool) (w : World) (h1 : kind ≤ 255) (h2 : room ≤ 255) : Calls Try.prog 9 #[.int .u8 kind, .int .u8 room, .bool second] w fun e w' => e = .returned (.bool true) ∧ Below w.heap.size w w' := by
  obtain ⟨k, hk⟩ : ∃ k : Nat, (kind : Int) % 3 + 1 = k := ⟨kind % 3 + 1, by omega⟩
  obtain ⟨n, hn⟩ : ∃ n : Nat, (room : Int) % 5 + 2 = n := ⟨room % 5 + 2, by omega⟩
  have hk' : k = 1 ∨ k = 2 ∨ k = 3 := by omega
  have hn1 : 2 ≤ n := by omega
  have hn6 : n ≤ 6 := by omega
  have HK := Lib.hid hk'
  have hk1 : 1 ≤ k := by omega
  have hk3 : k ≤ 3 := by omega
  clear hk'
  go_enter Try.func9, Try.ntmps9
  go_wp2_with fail
  refine (new_ok 20 _ (by omega)).mono ?_
  rintro e w1 ⟨m, a, b, rfl, hm, h1, h2, h3, ho⟩
  have HB1 := Lib.hid ho.nil_below
  have C := dnew_live m a b (MemS.fresh 20) k (0 : Nat) n w1 hm (by omega) (by omega) (by omega)
  rw [fresh_tcode (by omega), if_pos rfl] at C
  have HC := Lib.hid C; clear C hm ho
  go_wp2_with fail
  refine HC.out.mono ?_
  rintro e w2 ⟨rfl, hm, ho⟩
  have HB2 := Lib.hid (below_only3 HB1.out (Nat.le_refl _) ho h1 h2 h3)
  have HM2 := Lib.hid hm
  clear hm ho HC
  unfold aggD
  go_wp2_with fail
  obtain ⟨d, hd⟩ : ∃ d, d = w2.heap.size := ⟨_, rfl⟩
  have hS := DS.begin (kind := k) (room := n) (d := d) HM2.out (by omega) (by omega) HB2.out ⟨h1, h2, h3⟩ HK.out hd rfl
  have HS := Lib.hid hS
  rw [← hd]
  clear hS hd HM2
  go_loopw [13] (fun t wr => ∃ i : Nat, i ≤ 2 ∧ t = .int .i64 (i + 1 : Nat) ∧ DS w wr m a b d k n (20 * i) (seqL i) i) (fun t _ => 3 - (intOf t).toNat)
  case atStart => exact ⟨0, by omega, rfl, HS.out⟩
  case round =>
    obtain ⟨i, hi, rfl, hs⟩ := hrel
    clear HS
    by_cases hlt : i < 2
    · have HS := Lib.hid hs; clear hs
      obtain ⟨d0, d1, d2⟩ := HS.out.cells
      have C := Lib.hid (HS.out.push ((i + 1 : Nat) : Int) HK.out)
      go_wp2_with fail
      refine C.out.mono ?_
      rintro e wTx ⟨o, rfl, hs⟩
      have HO := Lib.hid hs; clear hs C d0 d1 d2
      have C := Lib.hid (HO.out.run HK.out (by omega) (by omega) (fun D hr => alone_push HK.out (by omega) (by omega) hr (by rw [seqL_len]; omega)))
      go_wp2_with fail
      refine C.out.mono ?_
      rintro e wT ⟨rfl, hs⟩
      have HT := Lib.hid hs; clear hs C HO
      go_wp2_with fail
      go_roundw
      case rel => exact ⟨i + 1, by omega, by go_num, by rw [seqL_succ]; exact HT.out.mono (by omega)⟩
      case measure => simp [intOf]; omega
    · obtain rfl : i = 2 := by omega
      have HS := Lib.hid hs; clear hs
      obtain ⟨d0, d1, d2⟩ := HS.out.cells
      have CS := Lib.hid (fun (v : World) (hv : DS w v m a b d k n (20 * 2) (seqL 2) 2) => hv.steal HK.out)
      have CT := Lib.hid (fun (v : World) (o : Nat) (hv : DSO w v m a b d k n (20 * 2) (seqL 2) 2 o 2 0) => hv.steal2 HK.out)
      go_wp2_with fail
      go_region_held3 (fun w' => w'.cell? ⟨d, 0, none⟩ = some (.int .i64 k) ∧ w'.cell? ⟨d, 1, none⟩ = some (.int .i64 0) ∧ w'.cell? ⟨d, 2, none⟩ = some (.int .i64 n)) (go_keep)
        (first
          | (go_at_call 21; refine (CT.out _ _ HO.out).mono ?_; rintro e w4 ⟨o2, rfl, hs⟩; have HD := Lib.hid hs; obtain ⟨D0, hs1, hs2⟩ := hs; obtain ⟨d0, d1, d2⟩ := hs1.cells; clear hs1 hs2)
          | (go_at_call 21; refine (CS.out _ HS.out.drew).mono ?_; rintro e w3 ⟨o1, rfl, hs⟩; obtain ⟨d0, d1, d2⟩ := hs.cells; have HO := Lib.hid hs; clear hs))
      obtain ⟨D0, hd0, hrep⟩ := HD.out
      have HE := Lib.hid (duel_ends HK.out hn1 (by omega) hrep)
      clear hrep HD CS CT HO HS
      cases second
      · skip
        go_wp2_with fail
        have HDu : Hid (Duel w w4 m a b d k n o1 o2 D0 0) := Lib.hid ⟨_, _, D0, hd0, rfl⟩
        clear hd0
        go_loopw [18] (fun t wr => ∃ i : Nat, i ≤ 9 ∧ t = .int .i64 i ∧ Duel w wr m a b d k n o1 o2 D0 i) (fun t _ => 9 - (intOf t).toNat)
        case atStart => exact ⟨0, by omega, rfl, HDu.out⟩
        case round =>
          obtain ⟨i, hi, rfl, ⟨s1, s2, D, hs, he⟩⟩ := hrel
          clear HDu
          by_cases hlt : i < 9
          · obtain ⟨q, hq⟩ : ∃ q, 9 - i = q + 1 := ⟨8 - i, by omega⟩
            rw [hq, duel_succ] at he
            have C := Lib.hid (hs.move HK.out (by omega))
            have HQ := Lib.hid he; clear hs he
            go_wp2_with fail
            refine C.out.mono ?_
            rintro e w5 ⟨rfl, hs⟩
            have C := Lib.hid (hs.swap.move HK.out (by omega)); clear hs
            go_wp2_with fail
            refine C.out.mono ?_
            rintro e w6 ⟨rfl, hs⟩
            have HS6 := Lib.hid hs.swap; clear hs
            go_wp2_with fail
            go_roundw
            case rel =>
              refine ⟨i + 1, by omega, by go_num, ⟨_, _, _, HS6.out, ?_⟩⟩
              rw [show 9 - (i + 1) = q by omega]; exact HQ.out
            case measure => simp [intOf]; omega
          · obtain rfl : i = 9 := by omega
            rw [show 9 - 9 = 0 from rfl, duel] at he
            obtain ⟨e1, e2, u, e3⟩ := HE.out
            rw [← he] at e1 e2 e3
            by_cases hk2 : k = 2
            · have hb2 : ((k : Int) == 2) = true := by simp; omega
              rw [if_pos hk2] at e1 e3
              have HK2 := Lib.hid hk2
              have HR := Lib.hid e3
              have C := Lib.hid hs.ended
              rw [e1] at C
              have T2 := Lib.hid e2
              clear he e1 e2 e3 hs HE hk2
              go_wp2_with fail
              refine C.out.mono ?_
              rintro e w5 ⟨rfl, hs⟩
              have C := Lib.hid hs.swap.ended
              rw [T2.out] at C
              clear hs
              go_wp2_with fail
              refine C.out.mono ?_
              rintro e w6 ⟨rfl, hs⟩
              have HS := Lib.hid (hs.ds HR.out); clear hs C
              obtain ⟨d0, d1, d2⟩ := HS.out.cells
              have C := Lib.hid (HS.out.pop HK.out)
              go_wp2_with fail
              refine C.out.mono ?_
              rintro e wTx ⟨o, rfl, hs⟩
              have HO := Lib.hid hs; clear hs C d0 d1 d2
              have C := Lib.hid (HO.out.runE HK.out (by omega) (by omega) (fun D hr => race_pop2 HK2.out hr))
              go_wp2_with fail
              refine C.out.mono ?_
              rintro e wT ⟨rfl, uT, hs⟩
              have HT := Lib.hid hs; clear hs C HO
              go_wp2_with fail
              refine (awake_any _).mono ?_
              rintro e w9 ⟨rfl, hb⟩
              have HB9 := Lib.hid (below_below HT.out.hb (Nat.le_refl _) hb)
              clear hb
              go_wp2_with fail
              go_ret
              exact ⟨rfl, HB9.out⟩
            · have hb2 : ((k : Int) == 2) = false := by simp; omega
              rw [if_neg hk2] at e1 e3
              have HK2 := Lib.hid hk2
              have HR := Lib.hid e3
              have C := Lib.hid hs.ended
              rw [e1] at C
              have T2 := Lib.hid e2
              clear he e1 e2 e3 hs HE hk2
              go_wp2_with fail
              refine C.out.mono ?_
              rintro e w5 ⟨rfl, hs⟩
              have C := Lib.hid hs.swap.ended
              rw [T2.out] at C
              clear hs
              go_wp2_with fail
              refine C.out.mono ?_
              rintro e w6 ⟨rfl, hs⟩
              have HS := Lib.hid (hs.ds HR.out); clear hs C
              obtain ⟨d0, d1, d2⟩ := HS.out.cells
              have C := Lib.hid (HS.out.pop HK.out)
              go_wp2_with fail
              refine C.out.mono ?_
              rintro e wTx ⟨o, rfl, hs⟩
              have HO := Lib.hid hs; clear hs C d0 d1 d2
              have C := Lib.hid (HO.out.runE HK.out (by omega) (by omega) (fun D hr => race_pop HK.out HK2.out hr))
              go_wp2_with fail
              refine C.out.mono ?_
              rintro e wT ⟨rfl, uT, hs⟩
              have HT := Lib.hid hs; clear hs C HO
              go_wp2_with fail
              refine (awake_any _).mono ?_
              rintro e w9 ⟨rfl, hb⟩
              have HB9 := Lib.hid (below_below HT.out.hb (Nat.le_refl _) hb)
              clear hb
              go_wp2_with fail
              go_ret
              exact ⟨rfl, HB9.out⟩
      · skip
        go_wp2_with fail
        have HDu : Hid (Duel w w4 m a b d k n o2 o1 D0 0) := Lib.hid ⟨_, _, D0, hd0.swap, rfl⟩
        clear hd0
        go_loopw [18] (fun t wr => ∃ i : Nat, i ≤ 9 ∧ t = .int .i64 i ∧ Duel w wr m a b d k n o2 o1 D0 i) (fun t _ => 9 - (intOf t).toNat)
        case atStart => exact ⟨0, by omega, rfl, HDu.out⟩
        case round =>
          obtain ⟨i, hi, rfl, ⟨s1, s2, D, hs, he⟩⟩ := hrel
          clear HDu
          by_cases hlt : i < 9
          · obtain ⟨q, hq⟩ : ∃ q, 9 - i = q + 1 := ⟨8 - i, by omega⟩
            rw [hq, duel_succ] at he
            have C := Lib.hid (hs.move HK.out (by omega))
            have HQ := Lib.hid he; clear hs he
            go_wp2_with fail
            refine C.out.mono ?_
            rintro e w5 ⟨rfl, hs⟩
            have C := Lib.hid (hs.swap.move HK.out (by omega)); clear hs
            go_wp2_with fail
            refine C.out.mono ?_
            rintro e w6 ⟨rfl, hs⟩
            have HS6 := Lib.hid hs.swap; clear hs
            go_wp2_with fail
            go_roundw
            case rel =>
              refine ⟨i + 1, by omega, by go_num, ⟨_, _, _, HS6.out, ?_⟩⟩
              rw [show 9 - (i + 1) = q by omega]; exact HQ.out
            case measure => simp [intOf]; omega
          · obtain rfl : i = 9 := by omega
            rw [show 9 - 9 = 0 from rfl, duel] at he
            obtain ⟨e1, e2, u, e3⟩ := HE.out
            rw [← he] at e1 e2 e3
            by_cases hk2 : k = 2
            · have hb2 : ((k : Int) == 2) = true := by simp; omega
              rw [if_pos hk2] at e1 e3
              have HK2 := Lib.hid hk2
              have HR := Lib.hid e3
              have C := Lib.hid hs.ended
              rw [e1] at C
              have T2 := Lib.hid e2
              clear he e1 e2 e3 hs HE hk2
              go_wp2_with fail
              refine C.out.mono ?_
              rintro e w5 ⟨rfl, hs⟩
              have C := Lib.hid hs.swap.ended
              rw [T2.out] at C
              clear hs
              go_wp2_with fail
              refine C.out.mono ?_
              rintro e w6 ⟨rfl, hs⟩
              have HS := Lib.hid (hs.ds HR.out); clear hs C
              obtain ⟨d0, d1, d2⟩ := HS.out.cells
              have C := Lib.hid (HS.out.pop HK.out)
              go_wp2_with fail
              refine C.out.mono ?_
              rintro e wTx ⟨o, rfl, hs⟩
              have HO := Lib.hid hs; clear hs C d0 d1 d2
              have C := Lib.hid (HO.out.runE HK.out (by omega) (by omega) (fun D hr => race_pop2 HK2.out hr))
              go_wp2_with fail
              refine C.out.mono ?_
              rintro e wT ⟨rfl, uT, hs⟩
              have HT := Lib.hid hs; clear hs C HO
              go_wp2_with fail
              refine (awake_any _).mono ?_
              rintro e w9 ⟨rfl, hb⟩
              have HB9 := Lib.hid (below_below HT.out.hb (Nat.le_refl _) hb)
              clear hb
              go_wp2_with fail
              go_ret
              exact ⟨rfl, HB9.out⟩
            · have hb2 : ((k : Int) == 2) = false := by simp; omega
              rw [if_neg hk2] at e1 e3
              have HK2 := Lib.hid hk2
              have HR := Lib.hid e3
              have C := Lib.hid hs.ended
              rw [e1] at C
              have T2 := Lib.hid e2
              clear he e1 e2 e3 hs HE hk2
              go_wp2_with fail
              refine C.out.mono ?_
              rintro e w5 ⟨rfl, hs⟩
              have C := Lib.hid hs.swap.ended
              rw [T2.out] at C
              clear hs
              go_wp2_with fail
              refine C.out.mono ?_
              rintro e w6 ⟨rfl, hs⟩
              have HS := Lib.hid (hs.ds HR.out); clear hs C
              obtain ⟨d0, d1, d2⟩ := HS.out.cells
              have C := Lib.hid (HS.out.pop HK.out)
              go_wp2_with fail
              refine C.out.mono ?_
              rintro e wTx ⟨o, rfl, hs⟩
              have HO := Lib.hid hs; clear hs C d0 d1 d2
              have C := Lib.hid (HO.out.runE HK.out (by omega) (by omega) (fun D hr => race_pop HK.out HK2.out hr))
              go_wp2_with fail
              refine C.out.mono ?_
              rintro e wT ⟨rfl, uT, hs⟩
              have HT := Lib.hid hs; clear hs C HO
              go_wp2_with fail
              refine (awake_any _).mono ?_
              rintro e w9 ⟨rfl, hb⟩
              have HB9 := Lib.hid (below_below HT.out.hb (Nat.le_refl _) hb)
              clear hb
              go_wp2_with fail
              go_ret
              exact ⟨rfl, HB9.out⟩

theorem dequeRace_walk (kind room : Int) (second : Bool) (w : World) (h1 : 0 ≤ kind ∧ kind ≤ 255) (h2 : 0 ≤ room ∧ room ≤ 255) : Calls Try.prog 9 #[.int .u8 kind, .int .u8 room, .bool second] w fun e w' => e = .returned (.bool true) ∧ Below w.heap.size w w' := by
  obtain ⟨i, rfl⟩ : ∃ i : Nat, kind = i := ⟨kind.toNat, by omega⟩
  obtain ⟨j, rfl⟩ : ∃ j : Nat, room = j := ⟨room.toNat, by omega⟩
  exact dequeRace_core i j second w (by omega) (by omega)

end Go.Proofs.Ytlogmfpnjpamgaa
