/- Layer 9: a law's memory, its deque and what is there; one operation more. -/
import Derived.Test.YtlogmfpnjpamgaaDeqS
import Derived.Test.YtlogmfpnjpamgaaDeqU
open Go Go.RowKit
namespace Go.Proofs.Ytlogmfpnjpamgaa

/-- A law's memory (m, a, b), its deque (d), and what is there: l. -/
structure DS (w wr : World) (m a b d kind room N : Nat) (l : List Int) (used : Nat) : Prop where
  ex : ∃ D, HM wr m a b 0 room D ∧ DqOk kind room N D ∧ Rep kind room l used D
  hd : Blk wr d [.int .i64 kind, .int .i64 0, .int .i64 room] 27
  hb : Below w.heap.size w wr
  hm : w.heap.size ≤ m ∧ w.heap.size ≤ a ∧ w.heap.size ≤ b
  dn : d ≠ m ∧ d ≠ a ∧ d ≠ b

/-- .. and an operation o that has not moved. -/
structure DSO (w wr : World) (m a b d kind room N : Nat) (l : List Int) (used o what : Nat) (x : Int) : Prop where
  ex : ∃ D, HW wr wr o m a b ((DOp.new what x).prog kind 0 room) D ∧ DqOk kind room N D ∧ Rep kind room l used D
  hd : Blk wr d [.int .i64 kind, .int .i64 0, .int .i64 room] 27
  hb : Below w.heap.size w wr
  hm : w.heap.size ≤ m ∧ w.heap.size ≤ a ∧ w.heap.size ≤ b
  dn : d ≠ m ∧ d ≠ a ∧ d ≠ b
  ho : w.heap.size ≤ o ∧ d ≠ o

theorem DS.cells {w wr : World} {m a b d kind room N : Nat} {l : List Int} {used : Nat} (h : DS w wr m a b d kind room N l used) :
    wr.cell? ⟨d, 0, none⟩ = some (.int .i64 kind) ∧ wr.cell? ⟨d, 1, none⟩ = some (.int .i64 0) ∧ wr.cell? ⟨d, 2, none⟩ = some (.int .i64 room) := ⟨h.hd.cell 0, h.hd.cell 1, h.hd.cell 2⟩

theorem DS.new {w wr : World} {m a b d kind room N what : Nat} {x : Int} {l : List Int} {used : Nat} (h : DS w wr m a b d kind room N l used) {e : Ending} {w1 : World} (hn : NewD ((DOp.new what x).prog kind 0 room) wr e w1) :
    ∃ o, e = .returned (.pointer (some ⟨o, 0, none⟩)) ∧ DSO w w1 m a b d kind room N l used o what x := by
  obtain ⟨⟨D, hm, hD, hr⟩, hd, hb, h1, h2⟩ := h
  obtain ⟨o, rfl, hbo, hso, ho⟩ := hn
  have hs := hb.size
  have hdl := hd.lt
  exact ⟨o, rfl, ⟨D, HM.begin (S := (DOp.new what x).prog kind 0 room) hm hbo hso ho, hD, hr⟩, hd.only ho (by simp), below_only hb (Nat.le_refl _) ho (by simp), h1, h2, by omega⟩

section
variable {w wr : World} {m a b d kind room N what : Nat} {l : List Int} {used : Nat}

theorem DS.push (h : DS w wr m a b d kind room N l used) (x : Int) (hk : kind = 1 ∨ kind = 2 ∨ kind = 3) :
    Calls Try.prog 19 #[.agg #[.int .i64 kind, .int .i64 0, .int .i64 room], .int .i64 x] wr (fun e w1 => ∃ o, e = .returned (.pointer (some ⟨o, 0, none⟩)) ∧ DSO w w1 m a b d kind room N l used o 0 x) :=
  (dpush_any (kind := kind) (base := 0) (room := room) x wr hk).mono (fun _ _ hn => h.new hn)
theorem DS.pop (h : DS w wr m a b d kind room N l used) (hk : kind = 1 ∨ kind = 2 ∨ kind = 3) :
    Calls Try.prog 20 #[.agg #[.int .i64 kind, .int .i64 0, .int .i64 room]] wr (fun e w1 => ∃ o, e = .returned (.pointer (some ⟨o, 0, none⟩)) ∧ DSO w w1 m a b d kind room N l used o 1 0) :=
  (dpop_any (kind := kind) (base := 0) (room := room) wr hk).mono (fun _ _ hn => h.new hn)
theorem DS.steal (h : DS w wr m a b d kind room N l used) (hk : kind = 1 ∨ kind = 2 ∨ kind = 3) :
    Calls Try.prog 21 #[.agg #[.int .i64 kind, .int .i64 0, .int .i64 room]] wr (fun e w1 => ∃ o, e = .returned (.pointer (some ⟨o, 0, none⟩)) ∧ DSO w w1 m a b d kind room N l used o 2 0) :=
  (dsteal_any (kind := kind) (base := 0) (room := room) wr hk).mono (fun _ _ hn => h.new hn)

theorem DSO.run {o : Nat} {x res why : Int} {l' : List Int} {used' : Nat} (h : DSO w wr m a b d kind room N l used o what x) (hk : kind = 1 ∨ kind = 2 ∨ kind = 3) (hw : what ≤ 2) (hN : N ≤ 900000)
    (hr : ∀ D, Rep kind room l used D → Runs kind room D what x res why l' used') :
    Calls Try.prog 18 #[.pointer (some ⟨m, 0, none⟩), .pointer (some ⟨o, 0, none⟩)] wr (fun e w1 => e = .returned (.tuple #[.int .i64 res, .int .i64 why]) ∧ DS w w1 m a b d kind room (N + 20) l' used') := by
  obtain ⟨⟨D, hW, hD, hrep⟩, hd, hb, h1, h2, h3⟩ := h
  obtain ⟨r1, r2⟩ := hr D hrep
  have hroom : room ≤ 1000 := hW.h.hroom.2
  have hok := runN_ok kind room hk hroom 20 N D _ hD (DOp.new_ok kind room N what x hw)
  refine (run_any (DOp.new what x) hW hk hD (DOp.new_ok kind room N what x hw) hN).mono ?_
  rintro e w1 ⟨rfl, hw1⟩
  refine ⟨by rw [prog_tells, r1], ⟨_, hw1.rest, hok.2, r2⟩, hd.only hw1.f (by simp; omega), below_only4 hb (Nat.le_refl _) hw1.f h3.1 h1.1 h1.2.1 h1.2.2, h1, h2⟩

theorem DS.alloc (h : DS w wr m a b d kind room N l used) (o : Obj) : DS w (wr.alloc o) m a b d kind room N l used := by
  obtain ⟨⟨D, hm, hD, hr⟩, hd, hb, h1, h2⟩ := h
  exact ⟨⟨D, hm.only0 ((Only.refl _ _).alloc _), hD, hr⟩, hd.alloc _, hb.alloc hb.size _, h1, h2⟩
theorem DS.mono {M : Nat} (h : DS w wr m a b d kind room N l used) (hM : N ≤ M) : DS w wr m a b d kind room M l used := by
  obtain ⟨⟨D, hm, hD, hr⟩, hd, hb, h1, h2⟩ := h
  exact ⟨⟨D, hm, hD.mono hM, hr⟩, hd, hb, h1, h2⟩

/-- The law's beginning. -/
theorem DS.begin {w1 w2 : World} {n : Nat} (hm : IsMem w2 m a b ((MemS.fresh n).turn ((0 : Nat) : Int) ((2 + room : Nat) : Int) true)) (h : room + 2 ≤ n) (hr : 1 ≤ room ∧ room ≤ 1000) (hb : Below w.heap.size w w2) (h1 : w.heap.size ≤ m ∧ w.heap.size ≤ a ∧ w.heap.size ≤ b) (hk : kind = 1 ∨ kind = 2 ∨ kind = 3) (hd : d = w2.heap.size)
    (hw : w1 = w2.alloc (.cells #[.int .i64 kind, .int .i64 0, .int .i64 room] 27)) : DS w w1 m a b d kind room 0 [] 0 := by
  subst hw
  have hM := HM.fresh (base := 0) hm (by omega) (by omega) hr
  have hl := hM.lt
  exact ⟨⟨zeroD, hM.only0 ((Only.refl _ _).alloc _), zeroD_ok _ _ _, rep_zero hk⟩, newBlk _ _ _ _ hd, hb.alloc hb.size _, h1, by omega⟩
end

end Go.Proofs.Ytlogmfpnjpamgaa
