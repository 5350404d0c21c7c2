/- Layer 9: a deque's words in a memory; an operation of the program. -/
import Derived.Test.YtlogmfpnjpamgaaMemG
import Derived.Laws.EntriesVeiled
import Derived.Laws.BitsLemmas
import Derived.Laws.Bits64
import Derived.Deep.RegionHeld3
open Go Go.RowKit
namespace Go.Proofs.Ytlogmfpnjpamgaa

theorem wraps_i64_62 (n : Int) (h₀ : 0 ≤ n) (h₁ : n < 2 ^ 62) : IntKind.i64.wrap n = n := by rw [IntKind.wrap_i64]; omega
theorem and_low (t : Int) (h0 : 0 ≤ t) (h1 : t < 1152921504606846976) : bits .and .i64 t 65535 = t % 65536 := by
  have h := bits_mask .i64 62 (by decide) wraps_i64_62 16 (by decide) t h0 (by omega)
  simpa using h
theorem or_pair (tag place : Int) (h0 : 0 ≤ tag) (h1 : tag < 1099511627776) (p0 : 0 ≤ place) (p1 : place < 65536) : bits .or .i64 (tag * 65536) place = tag * 65536 + place := by
  obtain ⟨a, rfl⟩ : ∃ a : Nat, tag = a := ⟨tag.toNat, by omega⟩
  obtain ⟨p, rfl⟩ : ∃ a : Nat, place = a := ⟨place.toNat, by omega⟩
  have h := (bits_nat .i64 62 (by decide) wraps_i64_62 (a * 65536) p (by omega) (by omega)).2
  have e := Nat.two_pow_add_eq_or_of_lt (i := 16) (b := p) (by omega) a
  have e2 : a * 65536 ||| p = a * 65536 + p := by rw [show (2 : Nat) ^ 16 = 65536 from by decide, Nat.mul_comm] at e; exact e.symm
  rw [e2] at h
  simpa using h

theorem MemS.code_words (s : MemS) (ws : List Int) (n : Int) (h : ws.length = s.words.length) (j : Int) : MemS.code ⟨ws, s.live, n⟩ j = s.code j := by unfold MemS.code; simp only [h]
theorem MemS.load_code (s : MemS) (k j : Int) : (s.load k).code j = s.code j := by
  unfold MemS.load; split
  · exact s.code_words s.words _ rfl j
  · rfl
theorem MemS.load_word (s : MemS) (k j : Int) : (s.load k).word j = s.word j := by
  unfold MemS.load; split
  · unfold MemS.word; rw [show (s.tick).code j = s.code j from s.code_words s.words _ rfl j]; rfl
  · rfl
theorem MemS.put_code (s : MemS) (k v j : Int) : (s.put k v).tick.code j = s.code j := s.code_words _ _ (by simp [MemS.put]) j
theorem MemS.put_word (s : MemS) (k v j : Int) (hk : s.code k = 0) (hj : s.code j = 0) : (s.put k v).tick.word j = if j = k then v else s.word j := by
  obtain ⟨a, rfl, ha, -⟩ := MemS.code_zero hk
  obtain ⟨b, rfl, hb, -⟩ := MemS.code_zero hj
  unfold MemS.word
  rw [s.put_code, if_pos hj, if_pos hj]
  show (s.words.set a v).getD b 0 = _
  by_cases e : b = a
  · subst e; simp [List.getD_eq_getElem?_getD, hb]
  · rw [if_neg (by omega)]; simp [List.getD_eq_getElem?_getD, Ne.symm e]

/-- A deque's words: 0 is E, 1 is T, the slots from 2 on. -/
abbrev Dq := Nat → Int
def Dq.put (D : Dq) (k : Nat) (v : Int) : Dq := fun j => if j = k then v else D j

/-- From base on, n words of a memory are live and read as D. -/
structure Reads (t : MemS) (base n : Nat) (D : Dq) : Prop where
  code : ∀ i, i < n → t.code (base + i : Nat) = 0
  word : ∀ i, i < n → t.word (base + i : Nat) = D i

theorem Reads.load {t : MemS} {base n : Nat} {D : Dq} (h : Reads t base n D) (k : Int) : Reads (t.load k) base n D :=
  ⟨fun i hi => by rw [t.load_code]; exact h.code i hi, fun i hi => by rw [t.load_word]; exact h.word i hi⟩
theorem Reads.put {t : MemS} {base n : Nat} {D : Dq} (h : Reads t base n D) (k : Nat) (hk : k < n) (v : Int) : Reads (t.put (base + k : Nat) v).tick base n (D.put k v) := by
  refine ⟨fun i hi => by rw [t.put_code]; exact h.code i hi, fun i hi => ?_⟩
  rw [t.put_word _ _ _ (h.code k hk) (h.code i hi)]
  unfold Dq.put
  by_cases e : i = k
  · subst e; simp
  · rw [if_neg (by omega), if_neg e]; exact h.word i hi
theorem Reads.store {t : MemS} {base n : Nat} {D : Dq} (h : Reads t base n D) (k : Nat) (hk : k < n) (v : Int) : Reads (t.store (base + k : Nat) v) base n (D.put k v) := by
  rw [MemS.store, if_pos (h.code k hk)]; exact h.put k hk v
theorem Reads.tick {t : MemS} {base n : Nat} {D : Dq} (h : Reads t base n D) : Reads t.tick base n D := by
  have e : ∀ j, t.tick.code j = t.code j := fun j => t.code_words t.words _ rfl j
  exact ⟨fun i hi => by rw [e]; exact h.code i hi, fun i hi => by rw [MemS.word, e]; exact h.word i hi⟩
theorem Reads.getD {t : MemS} {base n : Nat} {D : Dq} (h : Reads t base n D) (k : Nat) (hk : k < n) : t.words.getD (base + k) 0 = D k := by
  have := h.word k hk
  rw [MemS.word, if_pos (h.code k hk), show ((base + k : Nat) : Int).toNat = base + k from by omega] at this
  exact this
theorem Reads.hit {t : MemS} {base n : Nat} {D : Dq} (h : Reads t base n D) (k : Nat) (hk : k < n) (was : Int) : t.hit (base + k : Nat) was = decide (D k = was) := by
  rw [MemS.hit, h.code k hk, show ((base + k : Nat) : Int).toNat = base + k from by omega, h.getD k hk]
  by_cases e : D k = was <;> simp [e]
theorem Reads.swap {t : MemS} {base n : Nat} {D : Dq} (h : Reads t base n D) (k : Nat) (hk : k < n) (was v : Int) : Reads (t.swap (base + k : Nat) was v) base n (if D k = was then D.put k v else D) := by
  rw [MemS.swap, if_pos (h.code k hk), show ((base + k : Nat) : Int).toNat = base + k from by omega, h.getD k hk]
  by_cases e : D k = was
  · rw [if_pos e, if_pos (by simpa using e)]; exact h.put k hk v
  · rw [if_neg e, if_neg (by simpa using e)]; exact h.tick

/-- What an operation of the program reads as. -/
structure OpD where
  kind : Int
  base : Nat
  room : Nat
  x : Int
  e : Int
  t : Int
  next : Nat
  ended : Bool
  result : Int
  why : Int
  owner : Bool

def OpD.cells (s : OpD) (o : Nat) : List Value :=
  [.int .i64 s.kind, .int .i64 s.base, .int .i64 s.room, .int .i64 s.x, .int .i64 s.e, .int .i64 s.t, .func (.func s.next) #[.pointer (some ⟨o, 0, none⟩)] #[], .bool s.ended, .int .i64 s.result, .int .i64 s.why, .bool s.owner]

/-- Block o is an operation that reads as s; the memory (m, a, b) holds its deque's words, which read as D. -/
structure HasD (w : World) (o m a b : Nat) (s : OpD) (D : Dq) : Prop where
  op : Blk w o (s.cells o) 76
  mem : ∃ t, IsMem w m a b t ∧ Reads t s.base (s.room + 2) D
  om : o ≠ m
  oa : o ≠ a
  ob : o ≠ b
  hbase : s.base ≤ 100000
  hroom : 1 ≤ s.room ∧ s.room ≤ 1000

theorem HasD.set {w : World} {o m a b : Nat} {s s' : OpD} {D : Dq} (h : HasD w o m a b s D) (i : Nat) (v : Value) (e : (s.cells o).set i v = s'.cells o) (e1 : s'.base = s.base) (e2 : s'.room = s.room) : HasD (w.setCell ⟨o, i, none⟩ v) o m a b s' D := by
  obtain ⟨t, hm, hr⟩ := h.mem
  exact ⟨by have := h.op.set i v; rw [e] at this; exact this, ⟨t, hm.other (Ne.symm h.om) (Ne.symm h.oa) (Ne.symm h.ob) _, by rw [e1, e2]; exact hr⟩, h.om, h.oa, h.ob, by rw [e1]; exact h.hbase, by rw [e2]; exact h.hroom⟩
theorem HasD.drew {w : World} {o m a b : Nat} {s : OpD} {D : Dq} (h : HasD w o m a b s D) : HasD w.drew o m a b s D := by
  obtain ⟨t, hm, hr⟩ := h.mem
  exact ⟨h.op.drew, ⟨t, hm.drew, hr⟩, h.om, h.oa, h.ob, h.hbase, h.hroom⟩
theorem HasD.only0 {w w' : World} {o m a b : Nat} {s : OpD} {D : Dq} (h : HasD w o m a b s D) (ho : Only [] w w') : HasD w' o m a b s D := by
  obtain ⟨t, hm, hr⟩ := h.mem
  exact ⟨h.op.only ho (by simp), ⟨t, hm.only ho (by simp) (by simp) (by simp), hr⟩, h.om, h.oa, h.ob, h.hbase, h.hroom⟩
theorem HasD.mem' {w w' : World} {o m a b : Nat} {s : OpD} {t' : MemS} {D D' : Dq} (h : HasD w o m a b s D) (hm : IsMem w' m a b t') (hr : Reads t' s.base (s.room + 2) D') (ho : Only [m, a, b] w w') : HasD w' o m a b s D' :=
  ⟨h.op.only ho (by have := h.om; have := h.oa; have := h.ob; simp; omega), ⟨t', hm, hr⟩, h.om, h.oa, h.ob, h.hbase, h.hroom⟩

theorem HasD.all {w : World} {o m a b : Nat} {s : OpD} {D : Dq} (h : HasD w o m a b s D) :
    w.cell? ⟨o, 0, none⟩ = some (.int .i64 s.kind) ∧ w.cell? ⟨o, 1, none⟩ = some (.int .i64 s.base) ∧ w.cell? ⟨o, 2, none⟩ = some (.int .i64 s.room) ∧ w.cell? ⟨o, 3, none⟩ = some (.int .i64 s.x) ∧ w.cell? ⟨o, 4, none⟩ = some (.int .i64 s.e) ∧
    w.cell? ⟨o, 5, none⟩ = some (.int .i64 s.t) ∧ w.cell? ⟨o, 6, none⟩ = some (.func (.func s.next) #[.pointer (some ⟨o, 0, none⟩)] #[]) ∧ w.cell? ⟨o, 7, none⟩ = some (.bool s.ended) ∧ w.cell? ⟨o, 8, none⟩ = some (.int .i64 s.result) ∧
    w.cell? ⟨o, 9, none⟩ = some (.int .i64 s.why) ∧ w.cell? ⟨o, 10, none⟩ = some (.bool s.owner) ∧ o < w.heap.size :=
  ⟨h.op.cell 0, h.op.cell 1, h.op.cell 2, h.op.cell 3, h.op.cell 4, h.op.cell 5, h.op.cell 6, h.op.cell 7, h.op.cell 8, h.op.cell 9, h.op.cell 10, h.op.lt⟩

theorem dpair_any (tag place : Int) (w : World) (h0 : 0 ≤ tag) (h1 : tag < 1099511627776) (p0 : 0 ≤ place) (p1 : place < 65536) : Calls Try.prog 69 #[.int .i64 tag, .int .i64 place] w fun e w' => e = .returned (.int .i64 (tag * 65536 + place)) ∧ w = w' := by
  have H := Lib.hid (or_pair tag place h0 h1 p0 p1)
  go_enter Try.func69, Try.ntmps69
  go_wp2_with fail
  rw [H.out]
  go_ret
  exact ⟨rfl, rfl⟩

theorem dtag_any (o : Nat) (t : Int) (w : World) (h : w.cell? ⟨o, 5, none⟩ = some (.int .i64 t)) : Calls Try.prog 70 #[.pointer (some ⟨o, 0, none⟩)] w fun e w' => e = .returned (.int .i64 (t / 65536)) ∧ w = w' := by
  go_enter Try.func70, Try.ntmps70
  go_wp2_with fail
  go_ret
  exact ⟨rfl, rfl⟩

theorem dplace_any (o : Nat) (t : Int) (w : World) (h : w.cell? ⟨o, 5, none⟩ = some (.int .i64 t)) (h0 : 0 ≤ t) (h1 : t < 1152921504606846976) : Calls Try.prog 47 #[.pointer (some ⟨o, 0, none⟩)] w fun e w' => e = .returned (.int .i64 (t % 65536)) ∧ w = w' := by
  have H := Lib.hid (and_low t h0 h1)
  go_enter Try.func47, Try.ntmps47
  go_wp2_with fail
  rw [H.out]
  go_ret
  exact ⟨rfl, rfl⟩

end Go.Proofs.Ytlogmfpnjpamgaa
