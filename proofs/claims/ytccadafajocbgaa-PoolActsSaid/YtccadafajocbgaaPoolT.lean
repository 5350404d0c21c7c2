/- PoolRemote, plain: what is taken, given back by two workers, and drained. -/
import Derived.Test.YtccadafajocbgaaPoolS
open Go Go.RowKit
namespace Go.Proofs.Ytccadafajocbgaa

def shpR (k : Nat) : Shp := ⟨2, fun c => if c = 0 then 2 else 1, fun c => if c = 0 then k else 0⟩
theorem shpR_right {k : Nat} (hk : k ≤ 29) : (shpR k).Right := by
  refine ⟨by show 1 ≤ 2; omega, by show 2 ≤ 64; omega, fun c hc => ?_, fun c hc => ?_⟩
  · show 1 ≤ (if c = 0 then 2 else 1) ∧ (if c = 0 then 2 else 1) ≤ 64
    split <;> omega
  · show (if c = 0 then k else 0) ≤ 1000
    split <;> omega
theorem shpR_off (k : Nat) : (shpR k).off 3 = 2 * k := by simp [Shp.off, shpR]
theorem shpR_ws (k : Nat) : (shpR k).ws 3 = 4 * k := by simp [Shp.ws, shpR]; omega

/-- The rows and flags of a law's pool whose first worker's blocks are 1 .. k. -/
structure RB (S : PS) (k : Nat) : Prop where
  ok : S.Ok
  W : S.W = 2
  N : S.blks.length = 2 * k
  own : ∀ x : Int, 1 ≤ x → x ≤ k → (S.blk x).owner = 0
  cls : ∀ x : Int, 1 ≤ x → x ≤ 2 * k → (S.blk x).cls = 0
  r4 : (S.row 4).length = k
  r7 : S.row 7 = []

theorem RB.there {S : PS} {k : Nat} (h : RB S k) {x : Int} : S.there x ↔ 1 ≤ x ∧ x ≤ 2 * k := by unfold PS.there; rw [h.N]; omega
theorem RB.home {S : PS} {k : Nat} (h : RB S k) {x : Int} (h1 : 1 ≤ x) (h2 : x ≤ k) : S.home x = 0 ∧ S.far x = 3 := by
  unfold PS.home PS.far; rw [h.own x h1 h2, h.cls x h1 (by omega)]; exact ⟨rfl, rfl⟩

/-- Behind i takes. -/
structure RT (S : PS) (k i : Nat) : Prop extends RB S k where
  flag : ∀ x : Int, 1 ≤ x → x ≤ 2 * k → (S.blk x).taken = decide (x ≤ i)
  r0 : S.row 0 = (List.range' i (k - i)).map fun (j : Nat) => (j : Int) + 1
  r3 : S.row 3 = []

/-- Behind i gives, o of them by the other one. -/
structure RG (S : PS) (k i o : Nat) : Prop extends RB S k where
  flag : ∀ x : Int, 1 ≤ x → x ≤ 2 * k → (S.blk x).taken = decide ((i : Int) < x ∧ x ≤ k)
  r0 : (S.row 0).length + o = i
  r3 : (S.row 3).length = o

theorem RT.start {k : Nat} (hk : k ≤ 29) : RT ((shpR k).at_ 0 ((shpR k).off 3)) k 0 := by
  have hR := shpR_right hk
  have ho := shpR_off k
  have hb : ∀ x : Int, 1 ≤ x → x ≤ 2 * k → ((shpR k).at_ 0 ((shpR k).off 3)).blk x = (shpR k).place 0 (x - 1).toNat := fun x h1 h2 => Shp.at_blk h1 (by rw [ho]; omega)
  have r0 := Shp.row_full (s := shpR k) (w := 0) (c := 0) (by show 0 < 2; omega) (by omega)
  have r4 := Shp.row_full (s := shpR k) (w := 1) (c := 0) (by show 1 < 2; omega) (by omega)
  refine ⟨⟨Shp.made_ok hR (by rw [shpR_ws]; omega), rfl, ?_, fun x h1 h2 => ?_, fun x h1 h2 => ?_, ?_, Shp.row_far (s := shpR k) (N := (shpR k).off 3) (w := 1)⟩, fun x h1 h2 => ?_, ?_, Shp.row_far (s := shpR k) (N := (shpR k).off 3) (w := 0)⟩
  · show ((List.range _).map _).length = _
    rw [List.length_map, List.length_range, ho]
  · rw [hb x h1 (by omega)]
    have e := Shp.place_at (s := shpR k) (base := 0) (w := 0) (c := 0) (i := (x - 1).toNat) (by show 0 < 2; omega) (by omega) (by show (x - 1).toNat < k; omega)
    have e0 : (shpR k).beg 0 0 + (x - 1).toNat = (x - 1).toNat := by simp [Shp.beg, Shp.off]
    rw [e0] at e
    rw [e]
  · rw [hb x h1 h2]
    by_cases hxk : x ≤ k
    · have e := Shp.place_at (s := shpR k) (base := 0) (w := 0) (c := 0) (i := (x - 1).toNat) (by show 0 < 2; omega) (by omega) (by show (x - 1).toNat < k; omega)
      have e0 : (shpR k).beg 0 0 + (x - 1).toNat = (x - 1).toNat := by simp [Shp.beg, Shp.off]
      rw [e0] at e
      rw [e]
    · have e := Shp.place_at (s := shpR k) (base := 0) (w := 1) (c := 0) (i := (x - 1).toNat - k) (by show 1 < 2; omega) (by omega) (by show (x - 1).toNat - k < k; omega)
      have e0 : (shpR k).beg 1 0 + ((x - 1).toNat - k) = (x - 1).toNat := by simp [Shp.beg, Shp.off, shpR]; omega
      rw [e0] at e
      rw [e]
  · show ((shpR k).rowAt _ 4).length = k
    rw [r4, List.length_map, List.length_range']
    rfl
  · rw [hb x h1 h2]
    show false = _
    simp; omega
  · show (shpR k).rowAt _ 0 = _
    rw [r0]
    simp [Shp.beg, Shp.off, shpR]

theorem RT.take {S : PS} {k i : Nat} (h : RT S k i) (hi : i < k) : S.takeR 0 0 = ((i : Int) + 1, 0) ∧ RT (S.takeS 0 0) k (i + 1) := by
  have hr := h.r0
  have e1 : k - i = (k - i - 1) + 1 := by omega
  rw [e1, List.range'_succ, List.map_cons] at hr
  have hno : ¬ ((0 : Int) < 0 ∨ (S.W : Int) ≤ 0 ∨ (0 : Int) < 0 ∨ (3 : Int) ≤ 0) := by rw [h.W]; omega
  have hr' : S.row ((0 : Int).toNat * 4 + (0 : Int).toNat) = ((i : Int) + 1) :: (List.range' (i + 1) (k - i - 1)).map fun (j : Nat) => (j : Int) + 1 := hr
  have hx : (S.setRow 0 ((List.range' (i + 1) (k - i - 1)).map fun (j : Nat) => (j : Int) + 1)).there ((i : Int) + 1) := h.there.2 ⟨by omega, by omega⟩
  have es : S.takeS 0 0 = (S.setRow 0 ((List.range' (i + 1) (k - i - 1)).map fun (j : Nat) => (j : Int) + 1)).setTaken ((i : Int) + 1) true := by
    unfold PS.takeS; rw [if_neg hno]; simp only [hr']; rfl
  refine ⟨by unfold PS.takeR; rw [if_neg hno]; simp only [hr'], ?_⟩
  rw [es]
  refine ⟨⟨h.ok.pull (k := 0) (by rw [h.W]; omega) hr, h.W, by rw [PS.setTaken_len]; exact h.N, fun x h1 h2 => ?_, fun x h1 h2 => ?_, h.r4, h.r7⟩, fun x h1 h2 => ?_, ?_, h.r3⟩
  · rw [(PS.setTaken_place true hx h1).1]
    exact h.own x h1 h2
  · rw [(PS.setTaken_place true hx h1).2.1]
    exact h.cls x h1 h2
  · rw [PS.setTaken_taken true hx h1]
    have := h.flag x h1 h2
    split
    · rename_i e; subst e; simp
    · rename_i e
      show (S.blk x).taken = _
      rw [this]
      congr 1
      apply propext
      omega
  · show _ = (List.range' (i + 1) (k - (i + 1))).map _
    rw [show k - (i + 1) = k - i - 1 by omega]; rfl

theorem RT.gives {S : PS} {k : Nat} (h : RT S k k) : RG S k 0 0 :=
  ⟨h.toRB, fun x h1 h2 => by rw [h.flag x h1 h2]; congr 1; apply propext; omega, by rw [h.r0]; simp, by rw [h.r3]; rfl⟩

theorem RG.give {S : PS} {k i o : Nat} (h : RG S k i o) (hi : i < k) (v : Nat) (hv : v < 2) :
    S.giveR v ((i : Int) + 1) = 0 ∧ RG (S.giveS v ((i : Int) + 1)) k (i + 1) (o + v) ∧ (S.giveS v ((i : Int) + 1)).giveR v ((i : Int) + 1) = 11 ∧ (S.giveS v ((i : Int) + 1)).giveS v ((i : Int) + 1) = S.giveS v ((i : Int) + 1) := by
  have hx : S.there ((i : Int) + 1) := h.there.2 ⟨by omega, by omega⟩
  have ht : (S.blk ((i : Int) + 1)).taken = true := by rw [h.flag _ (by omega) (by omega)]; simp <;> omega
  have n1 : ¬ ((v : Int) < 0 ∨ (S.W : Int) ≤ v) := by rw [h.W]; omega
  have n2 : ¬ ((i : Int) + 1 < 1 ∨ (S.blks.length : Int) < (i : Int) + 1) := by rw [h.N]; omega
  have n3 : ¬ (S.blk ((i : Int) + 1)).taken = false := by rw [ht]; simp
  obtain ⟨eh, ef⟩ := h.home (x := (i : Int) + 1) (by omega) (by omega)
  have eo := h.own ((i : Int) + 1) (by omega) (by omega)
  have hbut := h.ok.give hx ht
  have hx' : (S.setTaken ((i : Int) + 1) false).there ((i : Int) + 1) := PS.setTaken_there.2 hx
  have k1 := PS.setTaken_home false hx hx.1
  have k2 := PS.setTaken_far false hx hx.1
  have hw4 : 4 * S.W = 8 := by rw [h.W]
  have es : S.giveS v ((i : Int) + 1) = if v = 0 then (S.setTaken ((i : Int) + 1) false).setRow 0 (((i : Int) + 1) :: S.row 0) else (S.setTaken ((i : Int) + 1) false).setRow 3 (S.row 3 ++ [(i : Int) + 1]) := by
    unfold PS.giveS
    rw [if_neg n1, if_neg n2, if_neg n3, eo, eh, ef, Int.toNat_natCast]
    by_cases hv0 : v = 0
    · rw [if_pos hv0.symm, if_pos hv0]
    · rw [if_neg (Ne.symm hv0), if_neg hv0]
  have hG : RG (S.giveS v ((i : Int) + 1)) k (i + 1) (o + v) := by
    have fl : ∀ x : Int, 1 ≤ x → x ≤ 2 * k → ((S.setTaken ((i : Int) + 1) false).blk x).taken = decide (((i + 1 : Nat) : Int) < x ∧ x ≤ k) := fun x h1 h2 => by
      rw [PS.setTaken_taken false hx h1]
      split
      · rename_i e; subst e; simp <;> omega
      · rename_i e
        rw [h.flag x h1 h2]
        congr 1
        apply propext
        omega
    have ow : ∀ x : Int, 1 ≤ x → x ≤ k → ((S.setTaken ((i : Int) + 1) false).blk x).owner = 0 := fun x h1 h2 => by
      rw [(PS.setTaken_place false hx h1).1]; exact h.own x h1 h2
    have oc : ∀ x : Int, 1 ≤ x → x ≤ 2 * k → ((S.setTaken ((i : Int) + 1) false).blk x).cls = 0 := fun x h1 h2 => by
      rw [(PS.setTaken_place false hx h1).2.1]; exact h.cls x h1 h2
    rw [es]
    by_cases hv0 : v = 0
    · subst hv0
      rw [if_pos rfl]
      have hok := (hbut.put (k := 0) (.inl (by rw [k1, eh])) (l' := ((i : Int) + 1) :: S.row 0) (fun y => by simp [PS.setTaken]) (List.nodup_cons.2 ⟨fun hm => (hbut.mem 0 (by show 0 < 4 * S.W; omega) _ hm).2.2.2 (by simp), h.ok.nodup 0 (by omega)⟩)).ok
      exact ⟨⟨hok, h.W, by show (S.setTaken _ _).blks.length = _; rw [PS.setTaken_len]; exact h.N, ow, oc, h.r4, h.r7⟩, fl, by show (((i : Int) + 1) :: S.row 0).length + (o + 0) = i + 1; have := h.r0; simp; omega, h.r3⟩
    · obtain rfl : v = 1 := by omega
      rw [if_neg (by omega)]
      have hok := (hbut.put (k := 3) (.inr (by rw [k2, ef])) (l' := S.row 3 ++ [(i : Int) + 1]) (fun y => by simp [PS.setTaken, or_comm]) (List.nodup_append.2 ⟨h.ok.nodup 3 (by omega), by simp, fun a ha b hb e => by
        simp at hb; subst hb; subst e; exact (hbut.mem 3 (by show 3 < 4 * S.W; omega) _ ha).2.2.2 (by simp)⟩)).ok
      exact ⟨⟨hok, h.W, by show (S.setTaken _ _).blks.length = _; rw [PS.setTaken_len]; exact h.N, ow, oc, h.r4, h.r7⟩, fl, by show (S.row 0).length + (o + 1) = i + 1; have := h.r0; omega, by show (S.row 3 ++ [(i : Int) + 1]).length = o + 1; have := h.r3; simp; omega⟩
  refine ⟨by unfold PS.giveR; rw [if_neg n1, if_neg n2, if_neg n3], hG, ?_, ?_⟩
  · have m1 : ¬ ((v : Int) < 0 ∨ ((S.giveS v ((i : Int) + 1)).W : Int) ≤ v) := by rw [hG.W]; omega
    have m2 : ¬ ((i : Int) + 1 < 1 ∨ ((S.giveS v ((i : Int) + 1)).blks.length : Int) < (i : Int) + 1) := by rw [hG.N]; omega
    have m3 : ((S.giveS v ((i : Int) + 1)).blk ((i : Int) + 1)).taken = false := by rw [hG.flag _ (by omega) (by omega)]; simp <;> omega
    generalize S.giveS v ((i : Int) + 1) = S' at *
    unfold PS.giveR; rw [if_neg m1, if_neg m2, if_pos m3]
  · have m1 : ¬ ((v : Int) < 0 ∨ ((S.giveS v ((i : Int) + 1)).W : Int) ≤ v) := by rw [hG.W]; omega
    have m2 : ¬ ((i : Int) + 1 < 1 ∨ ((S.giveS v ((i : Int) + 1)).blks.length : Int) < (i : Int) + 1) := by rw [hG.N]; omega
    have m3 : ((S.giveS v ((i : Int) + 1)).blk ((i : Int) + 1)).taken = false := by rw [hG.flag _ (by omega) (by omega)]; simp <;> omega
    generalize S.giveS v ((i : Int) + 1) = S' at *
    unfold PS.giveS; rw [if_neg m1, if_neg m2, if_pos m3]

theorem RG.tells {S : PS} {k o : Nat} (h : RG S k k o) : S.many 0 0 = (k : Int) - o ∧ S.manyR 0 = o ∧ S.manyR 1 = 0 ∧ (S.isHome ↔ o = 0) ∧ S.many 1 0 = k := by
  have hW := h.W
  refine ⟨?_, ?_, ?_, ?_, ?_⟩
  · unfold PS.many
    rw [if_pos (by rw [hW]; omega)]
    show ((S.row 0).length : Int) = _
    have := h.r0; omega
  · unfold PS.manyR
    rw [if_pos (by rw [hW]; omega)]
    show ((S.row 3).length : Int) = _
    rw [h.r3]
  · unfold PS.manyR
    rw [if_pos (by rw [hW]; omega)]
    show ((S.row 7).length : Int) = _
    rw [h.r7]; rfl
  · constructor
    · intro hh
      have := hh.2 0 (by rw [hW]; omega)
      have h3 := h.r3
      rw [show 4 * 0 + 3 = 3 by rfl] at this
      rw [this] at h3; exact h3.symm
    · rintro rfl
      refine ⟨fun x hx => ?_, fun v hv => ?_⟩
      · obtain ⟨h1, h2⟩ := h.there.1 hx
        rw [h.flag x h1 h2]; simp <;> omega
      · rw [hW] at hv
        rcases (show v = 0 ∨ v = 1 by omega) with rfl | rfl
        · exact List.eq_nil_of_length_eq_zero h.r3
        · exact h.r7
  · unfold PS.many
    rw [if_pos (by rw [hW]; omega)]
    show ((S.row 4).length : Int) = _
    rw [h.r4]

theorem PS.homeAll_at (k : Nat) : ∀ (l : List Int) (S : PS), (∀ x ∈ l, S.home x = k) → ((S.homeAll l).row k).length = (S.row k).length + l.length
  | [], _, _ => rfl
  | x :: l, S, h => by
    have hx := h x (by simp)
    refine (PS.homeAll_at k l (S.setRow (S.home x) (x :: S.row (S.home x))) (fun y hy => h y (by simp [hy]))).trans ?_
    simp only [PS.setRow, hx, if_true, List.length_cons]; omega

theorem RG.drain1 {S : PS} {k o : Nat} (h : RG S k k o) : (S.drain 1).1 = 0 ∧ RG (S.drain 1).2 k k o := by
  have hn : ¬ ((1 : Int) < 0 ∨ (S.W : Int) ≤ 1) := by rw [h.W]; omega
  have e : S.drain 1 = (((S.row 7).length : Int), S.drainS 1) := if_neg hn
  have e2 : S.drainS 1 = S.setRow 7 [] := by
    unfold PS.drainS
    rw [show 4 * 1 + 3 = 7 by rfl, h.r7]; rfl
  rw [e, e2, h.r7]
  refine ⟨rfl, ⟨⟨?_, h.W, h.N, h.own, h.cls, h.r4, rfl⟩, h.flag, h.r0, h.r3⟩⟩
  rw [← e2]; exact h.ok.drain (by rw [h.W]; omega)
theorem RG.drain0 {S : PS} {k o : Nat} (h : RG S k k o) : (S.drain 0).1 = o ∧ RG (S.drain 0).2 k k 0 := by
  have hn : ¬ ((0 : Int) < 0 ∨ (S.W : Int) ≤ 0) := by rw [h.W]; omega
  have e : S.drain 0 = (((S.row 3).length : Int), S.drainS 0) := if_neg hn
  have hh : ∀ x ∈ S.row 3, S.home x = 0 := fun x hx => by
    have hm := h.ok.mem 3 (by rw [h.W]; omega) x hx
    have hp := h.ok.place x hm.1
    have ht := h.there.1 hm.1
    have hxo : (S.blk x).owner = 0 := by have := hm.2.2; unfold PS.home PS.far at this; omega
    unfold PS.home
    rw [hxo, h.cls x ht.1 ht.2]
  rw [e]
  have hb := (PS.homeAll_same (S.row 3) S)
  have hr : ∀ j, j ≠ 0 → ((S.homeAll (S.row 3)).row j) = S.row j := fun j hj => PS.homeAll_far _ _ _ (fun x hx => by rw [hh x hx]; exact Ne.symm hj)
  have e2 : S.drainS 0 = (S.homeAll (S.row 3)).setRow 3 [] := rfl
  refine ⟨by rw [h.r3], ⟨⟨h.ok.drain (by rw [h.W]; omega), hb.1.trans h.W, by rw [e2]; show (S.homeAll (S.row 3)).blks.length = _; rw [hb.2]; exact h.N, fun x h1 h2 => ?_, fun x h1 h2 => ?_, ?_, ?_⟩, fun x h1 h2 => ?_, ?_, rfl⟩⟩
  · rw [e2]; show ((S.homeAll (S.row 3)).blk x).owner = 0
    rw [PS.homeAll_blk]; exact h.own x h1 h2
  · rw [e2]; show ((S.homeAll (S.row 3)).blk x).cls = 0
    rw [PS.homeAll_blk]; exact h.cls x h1 h2
  · rw [e2]; show ((S.homeAll (S.row 3)).row 4).length = k
    rw [hr 4 (by omega)]; exact h.r4
  · rw [e2]; show (S.homeAll (S.row 3)).row 7 = []
    rw [hr 7 (by omega)]; exact h.r7
  · rw [e2]; show ((S.homeAll (S.row 3)).blk x).taken = _
    rw [PS.homeAll_blk]; exact h.flag x h1 h2
  · rw [e2]; show ((S.homeAll (S.row 3)).row 0).length + 0 = k
    rw [PS.homeAll_at 0 _ _ hh, h.r3]; have := h.r0; omega

end Go.Proofs.Ytccadafajocbgaa
