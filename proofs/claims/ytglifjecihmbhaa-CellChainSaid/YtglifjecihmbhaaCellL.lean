/- Layer 13: how a world of the law's is filled. -/
import Derived.Test.YtglifjecihmbhaaCellK
open Go Go.RowKit
namespace Go.Proofs.Ytglifjecihmbhaa

def C0 : ACell := ⟨0, 0, 0, [0, 0, 0, 0, 0, 0]⟩
def A0 (value why : Int) (k : Nat) : AOp := if k = 0 then ⟨0, 0, 0, value, why, false, false, 0⟩ else ⟨k, 0, 0, 0, 0, false, false, 0⟩

def Lay.ifp (n i b : Nat) : Value := if i < n then .pointer (some ⟨b, 0, none⟩) else .pointer none
/-- The cells of a world of which the first n operations are there. -/
def Lay.cellsN (L : Lay) (n : Nat) : List Value :=
  [.pointer (some ⟨L.m, 0, none⟩), .int .i64 2, .int .i64 0, .int .i64 0, .int .i64 0, .slice (some ⟨L.lk, 0, none⟩) 6 6,
   ifp n 0 (L.ops 0), ifp n 1 (L.ops 1), ifp n 2 (L.ops 2), ifp n 3 (L.ops 3), ifp n 4 (L.ops 4), ifp n 5 (L.ops 5),
   ifp n 0 (L.own 0), ifp n 1 (L.own 1), ifp n 2 (L.own 2), ifp n 3 (L.own 3), ifp n 4 (L.own 4), ifp n 5 (L.own 5)]
def Lay.put (L : Lay) (n o q : Nat) : Lay := { L with ops := fun i => if i = n then o else L.ops i, own := fun i => if i = n then q else L.own i }

theorem Lay.cellsN_put (L : Lay) (n o q : Nat) (hn : n ≤ 5) : ((L.cellsN n).set (6 + n) (.pointer (some ⟨o, 0, none⟩))).set (12 + n) (.pointer (some ⟨q, 0, none⟩)) = (L.put n o q).cellsN (n + 1) := by
  rcases (show n = 0 ∨ n = 1 ∨ n = 2 ∨ n = 3 ∨ n = 4 ∨ n = 5 by omega) with rfl | rfl | rfl | rfl | rfl | rfl <;> simp [Lay.cellsN, Lay.put, Lay.ifp]

theorem Lay.cellsN_6 (L : Lay) (x : Nat) (h : x ≤ 5) : (L.cellsN x)[6 + x]? = some (.pointer none) := by
  rcases (show x = 0 ∨ x = 1 ∨ x = 2 ∨ x = 3 ∨ x = 4 ∨ x = 5 by omega) with rfl | rfl | rfl | rfl | rfl | rfl <;> rfl
theorem Lay.cellsN_12 (L : Lay) (x : Nat) (h : x ≤ 5) : (L.cellsN x)[12 + x]? = some (.pointer none) := by
  rcases (show x = 0 ∨ x = 1 ∨ x = 2 ∨ x = 3 ∨ x = 4 ∨ x = 5 by omega) with rfl | rfl | rfl | rfl | rfl | rfl <;> rfl

/-- A world of which the first n operations are there. -/
structure WS (value why : Int) (w0 w : World) (L : Lay) (n : Nat) : Prop where
  mem : ∃ t, IsMem w L.m L.a L.b (C0.mem t)
  top : Blk w L.v (L.cellsN n) 42
  lk : Blk w L.lk (C0.L.map (.int .i64)) 2
  ops : ∀ k, k < n → Blk w (L.ops k) (((A0 value why k).prog k).cells (L.ops k)) 66
  own : ∀ k, k < n → Blk w (L.own k) (A0 value why k).cells 30
  low : w0.heap.size ≤ L.m ∧ w0.heap.size ≤ L.a ∧ w0.heap.size ≤ L.b ∧ w0.heap.size ≤ L.v ∧ w0.heap.size ≤ L.lk
  vm : L.v ≠ L.m ∧ L.v ≠ L.a ∧ L.v ≠ L.b
  lm : L.lk ≠ L.m ∧ L.lk ≠ L.a ∧ L.lk ≠ L.b
  vl : L.v ≠ L.lk
  opsF : ∀ k, k < n → w0.heap.size ≤ L.ops k ∧ L.ops k ≠ L.m ∧ L.ops k ≠ L.a ∧ L.ops k ≠ L.b ∧ L.ops k ≠ L.v ∧ L.ops k ≠ L.lk
  ownF : ∀ k, k < n → w0.heap.size ≤ L.own k ∧ L.own k ≠ L.m ∧ L.own k ≠ L.a ∧ L.own k ≠ L.b ∧ L.own k ≠ L.v ∧ L.own k ≠ L.lk
  oo : ∀ i j, i < n → j < n → L.ops i ≠ L.own j
  pp : ∀ i j, i < n → j < n → i ≠ j → L.ops i ≠ L.ops j ∧ L.own i ≠ L.own j
  bel : Below w0.heap.size w0 w

theorem WS.step {value why : Int} {w0 w w2 : World} {L : Lay} {n o q : Nat} (h : WS value why w0 w L n) (hn : n ≤ 5) (ho : Only [L.v] w w2)
    (b0 : Blk w2 L.v (((L.cellsN n).set (6 + n) (.pointer (some ⟨o, 0, none⟩))).set (12 + n) (.pointer (some ⟨q, 0, none⟩))) 42)
    (b1 : Blk w2 o (((A0 value why n).prog n).cells o) 66) (b2 : Blk w2 q (A0 value why n).cells 30) (l1 : w.heap.size ≤ o) (l2 : w.heap.size ≤ q) (ne : o ≠ q) :
    WS value why w0 w2 (L.put n o q) (n + 1) := by
  obtain ⟨t, hm⟩ := h.mem
  have s1 := hm.top.lt
  have s2 := hm.words.lt
  have s3 := hm.live.lt
  have s4 := h.top.lt
  have s5 := h.lk.lt
  have s6 := h.bel.size
  obtain ⟨v1, v2, v3⟩ := h.vm
  obtain ⟨m1, m2, m3⟩ := h.lm
  obtain ⟨g1, g2, g3, g4, g5⟩ := h.low
  have hvl := h.vl
  have hlt : ∀ k, k < n → L.ops k < w.heap.size ∧ L.own k < w.heap.size := fun k hk => ⟨(h.ops k hk).lt, (h.own k hk).lt⟩
  have e1 : (L.put n o q).ops n = o := by simp [Lay.put]
  have e2 : (L.put n o q).own n = q := by simp [Lay.put]
  have e3 : ∀ k, k < n → (L.put n o q).ops k = L.ops k := fun k hk => by simp [Lay.put]; omega
  have e4 : ∀ k, k < n → (L.put n o q).own k = L.own k := fun k hk => by simp [Lay.put]; omega
  refine ⟨⟨t, hm.only ho (by simp; omega) (by simp; omega) (by simp; omega)⟩, ?_, h.lk.only ho (by simp; omega), ?_, ?_, h.low, h.vm, h.lm, h.vl, ?_, ?_, ?_, ?_, ?_⟩
  · rw [← L.cellsN_put n o q hn]; exact b0
  · intro k hk
    by_cases e : k = n
    · subst e; rw [e1]; exact b1
    · rw [e3 k (by omega)]
      have := (h.opsF k (by omega)).2.2.2.2.1
      exact (h.ops k (by omega)).only ho (by simp; exact this)
  · intro k hk
    by_cases e : k = n
    · subst e; rw [e2]; exact b2
    · rw [e4 k (by omega)]
      have := (h.ownF k (by omega)).2.2.2.2.1
      exact (h.own k (by omega)).only ho (by simp; exact this)
  · intro k hk
    by_cases e : k = n
    · subst e; rw [e1]; show _ ≤ o ∧ o ≠ L.m ∧ o ≠ L.a ∧ o ≠ L.b ∧ o ≠ L.v ∧ o ≠ L.lk; omega
    · rw [e3 k (by omega)]; exact h.opsF k (by omega)
  · intro k hk
    by_cases e : k = n
    · subst e; rw [e2]; show _ ≤ q ∧ q ≠ L.m ∧ q ≠ L.a ∧ q ≠ L.b ∧ q ≠ L.v ∧ q ≠ L.lk; omega
    · rw [e4 k (by omega)]; exact h.ownF k (by omega)
  · intro i j hi hj
    by_cases e : i = n
    · subst e; rw [e1]
      by_cases e' : j = i
      · subst e'; rw [e2]; exact ne
      · rw [e4 j (by omega)]; have := (hlt j (by omega)).2; omega
    · rw [e3 i (by omega)]
      have := (hlt i (by omega)).1
      by_cases e' : j = n
      · subst e'; rw [e2]; omega
      · rw [e4 j (by omega)]; exact h.oo i j (by omega) (by omega)
  · intro i j hi hj hij
    by_cases e : i = n
    · subst e; rw [e1, e2, e3 j (by omega), e4 j (by omega)]; have := hlt j (by omega); omega
    · rw [e3 i (by omega), e4 i (by omega)]
      have := hlt i (by omega)
      by_cases e' : j = n
      · subst e'; rw [e1, e2]; omega
      · rw [e3 j (by omega), e4 j (by omega)]; exact h.pp i j (by omega) (by omega) hij
  · exact below_only h.bel (Nat.le_refl _) ho (fun j hj => by simp at hj; omega)

/-- The call first, the box behind. -/
theorem WS.stepA {value why : Int} {w0 w w4 : World} {L : Lay} {n o : Nat} (h : WS value why w0 w L n) (hn : n ≤ 5) (ho : Only [] w.drew w4)
    (b1 : Blk w4 o (((A0 value why n).prog n).cells o) 66) (l1 : w.heap.size ≤ o) (X : Obj) (hX : X = .cells (A0 value why n).cells.toArray 30) :
    WS value why w0 (((w4.setCell ⟨L.v, 6 + n, none⟩ (.pointer (some ⟨o, 0, none⟩))).setCell ⟨L.v, 12 + n, none⟩ (.pointer (some ⟨w4.heap.size, 0, none⟩))).alloc X) (L.put n o w4.heap.size) (n + 1) := by
  subst hX
  have ho : Only [] w w4 := (Only.refl _ _).drew.trans ho
  have s4 := h.top.lt
  have s7 := ho.size
  have s8 := b1.lt
  refine h.step hn ((((ho.mono (T := [L.v]) (by simp)).setCell (by simp) _).setCell (by simp) _).alloc _) ((((h.top.only ho (by simp)).set _ _).set _ _).alloc _) (((b1.other (by show o ≠ L.v; omega) _).other (by show o ≠ L.v; omega) _).alloc _) (newBlk _ _ _ _ (by simp)) l1 s7 (by omega)
/-- The box first, the call behind. -/
theorem WS.stepB {value why : Int} {w0 w w4 : World} {L : Lay} {n o : Nat} (h : WS value why w0 w L n) (hn : n ≤ 5) (X : Obj) (hX : X = .cells (A0 value why n).cells.toArray 30) (ho : Only [] (w.alloc X).drew w4)
    (b1 : Blk w4 o (((A0 value why n).prog n).cells o) 66) (l1 : (w.alloc X).drew.heap.size ≤ o) :
    WS value why w0 ((w4.setCell ⟨L.v, 6 + n, none⟩ (.pointer (some ⟨o, 0, none⟩))).setCell ⟨L.v, 12 + n, none⟩ (.pointer (some ⟨w.heap.size, 0, none⟩))) (L.put n o w.heap.size) (n + 1) := by
  subst hX
  have l2 : w.heap.size + 1 ≤ o := by simpa using l1
  have ho1 : Only [] (w.alloc (.cells (A0 value why n).cells.toArray 30)) w4 := (Only.refl _ _).drew.trans ho
  have ho : Only [] w w4 := ((Only.refl _ _).alloc _).trans ho1
  have s4 := h.top.lt
  refine h.step hn (((ho.mono (T := [L.v]) (by simp)).setCell (by simp) _).setCell (by simp) _) (((h.top.only ho (by simp)).set _ _).set _ _) ((b1.other (by show o ≠ L.v; omega) _).other (by show o ≠ L.v; omega) _)
    ((((Blk.new w _ _).only ho1 (by simp)).other (by show w.heap.size ≠ L.v; omega) _).other (by show w.heap.size ≠ L.v; omega) _) (by omega) (Nat.le_refl _) (by omega)

theorem WS.start {value why : Int} {w0 w w1 : World} {m a b v lk : Nat} {t : Int} (hm : IsMem w m a b (C0.mem t)) (hb : Below w0.heap.size w0 w) (ho : Only [] w w1)
    (b1 : Blk w1 lk (C0.L.map (.int .i64)) 2) (b2 : Blk w1 v (Lay.cellsN ⟨m, a, b, v, lk, fun _ => 0, fun _ => 0⟩ 0) 42) (l1 : w.heap.size ≤ lk) (l2 : w.heap.size ≤ v) (ne : v ≠ lk)
    (h1 : w0.heap.size ≤ m) (h2 : w0.heap.size ≤ a) (h3 : w0.heap.size ≤ b) : WS value why w0 w1 ⟨m, a, b, v, lk, fun _ => 0, fun _ => 0⟩ 0 := by
  have s1 := hm.top.lt
  have s2 := hm.words.lt
  have s3 := hm.live.lt
  have s6 := hb.size
  refine ⟨⟨t, hm.only ho (by simp) (by simp) (by simp)⟩, b2, b1, fun k hk => by omega, fun k hk => by omega, ⟨h1, h2, h3, by show _ ≤ v; omega, by show _ ≤ lk; omega⟩, ⟨?_, ?_, ?_⟩, ⟨?_, ?_, ?_⟩, ne, fun k hk => by omega, fun k hk => by omega, fun i j hi => by omega, fun i j hi => by omega, below_only hb (Nat.le_refl _) ho (fun k hk => by simp at hk)⟩
  all_goals simp only
  all_goals omega

theorem C0_len : C0.L.length = 6 := rfl
theorem A0_good (value why : Int) (k : Nat) (hk : k ≤ 5) : (A0 value why k).good k := by
  unfold A0
  by_cases e : k = 0
  · subst e; rw [if_pos rfl]; exact ⟨rfl, by omega, fun _ => ⟨rfl, fun _ => by simp, fun h => by omega⟩, fun h => by omega⟩
  · rw [if_neg e]; exact ⟨rfl, by omega, fun _ => ⟨rfl, fun h => by omega, fun _ => by simp⟩, fun h => ⟨fun _ => rfl, fun _ => rfl, fun h => by simp at h⟩⟩

theorem A0_fill (value why : Int) (o : Nat) : (OpS.fill 2 value why).cells o = ((A0 value why 0).prog 0).cells o := by kernel_rfl
theorem A0_wait (value why : Int) (x : Nat) (o : Nat) (h1 : 1 ≤ x) (h5 : x ≤ 5) : (OpS.wait 2 x (10 + (x : Int))).cells o = ((A0 value why x).prog x).cells o := by
  rcases (show x = 1 ∨ x = 2 ∨ x = 3 ∨ x = 4 ∨ x = 5 by omega) with rfl | rfl | rfl | rfl | rfl <;> kernel_rfl
theorem A0_own (value why : Int) (x : Nat) (h1 : 1 ≤ x) : A0 value why x = ⟨x, 0, 0, 0, 0, false, false, 0⟩ := by unfold A0; rw [if_neg (by omega)]

theorem WS.inv {value why : Int} {w0 w : World} {L : Lay} (h : WS value why w0 w L 6) : L.fine w0.heap.size ∧ Inv w0 w L C0 (A0 value why) :=
  ⟨⟨h.low, h.vm, h.lm, h.vl, fun k hk => h.opsF k (by omega), fun k hk => h.ownF k (by omega), fun i j hi hj => h.oo i j (by omega) (by omega), fun i j hi hj => h.pp i j (by omega) (by omega)⟩,
    ⟨h.mem, h.top, h.lk, fun k hk => h.ops k (by omega), fun k hk => h.own k (by omega), fun k hk => A0_good value why k hk, C0_len, (show Only [] w0 w from ⟨h.bel.os, h.bel.tape, h.bel.output, h.bel.size, fun k hk _ => h.bel.block k hk⟩).mono (by simp)⟩⟩

end Go.Proofs.Ytglifjecihmbhaa
