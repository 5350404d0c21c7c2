/- Layer 13: the document's moves, by their numbers. -/
import Derived.Test.YtglifjecihmbhaaCellE
open Go Go.RowKit
namespace Go.Proofs.Ytglifjecihmbhaa

/-- An operation of the document; pc: its next move's number less one. -/
structure AOp where
  x : Int
  pc : Nat
  h : Int
  value : Int
  why : Int
  ended : Bool
  waits : Bool
  first : Int

/-- A cell of the document. -/
structure ACell where
  H : Int
  V : Int
  Y : Int
  L : List Int

def AOp.cells (s : AOp) : List Value := [.int .i64 s.x, .int .i64 s.pc, .int .i64 s.h, .int .i64 s.value, .int .i64 s.why, .bool s.ended, .bool s.waits, .int .i64 s.first]

/-- Where the blocks of a world are. -/
structure Lay where
  m : Nat
  a : Nat
  b : Nat
  v : Nat
  lk : Nat
  ops : Nat → Nat
  own : Nat → Nat

def Lay.ptr (n : Nat) : Value := .pointer (some ⟨n, 0, none⟩)
def Lay.cells (L : Lay) (C : ACell) : List Value :=
  [.pointer (some ⟨L.m, 0, none⟩), .int .i64 2, .int .i64 C.H, .int .i64 C.V, .int .i64 C.Y, .slice (some ⟨L.lk, 0, none⟩) 6 6,
   .pointer (some ⟨L.ops 0, 0, none⟩), .pointer (some ⟨L.ops 1, 0, none⟩), .pointer (some ⟨L.ops 2, 0, none⟩), .pointer (some ⟨L.ops 3, 0, none⟩), .pointer (some ⟨L.ops 4, 0, none⟩), .pointer (some ⟨L.ops 5, 0, none⟩),
   .pointer (some ⟨L.own 0, 0, none⟩), .pointer (some ⟨L.own 1, 0, none⟩), .pointer (some ⟨L.own 2, 0, none⟩), .pointer (some ⟨L.own 3, 0, none⟩), .pointer (some ⟨L.own 4, 0, none⟩), .pointer (some ⟨L.own 5, 0, none⟩)]

/-- The document's move. -/
def AOp.step (C : ACell) (s : AOp) : ACell × AOp :=
  if s.ended = true then (C, s)
  else if 0 < s.x then
    match s.pc with
    | 0 => (C, if C.H = -1 then { s with pc := 3, h := C.H } else { s with pc := 1, h := C.H })
    | 1 => ({ C with L := C.L.set s.x.toNat s.h }, { s with pc := 2 })
    | 2 => if C.H = s.h then ({ C with H := s.x }, { s with pc := 3, ended := true, waits := true }) else (C, { s with pc := 0 })
    | 3 => (C, { s with pc := 4, value := C.V })
    | 4 => (C, { s with pc := 5, why := C.Y, ended := true })
    | n => (C, { s with pc := n + 1 })
  else
    match s.pc with
    | 0 => ({ C with V := s.value }, { s with pc := 1 })
    | 1 => ({ C with Y := s.why }, { s with pc := 2 })
    | 2 => (C, { s with pc := 3, h := C.H })
    | 3 => if C.H = s.h then ({ C with H := -1 }, { s with pc := 4, ended := true, first := s.h }) else (C, { s with pc := 2 })
    | n => (C, { s with pc := n + 1 })

/-- The blocks that the document's move reads and writes. -/
structure HasRef (w : World) (L : Lay) (o : Nat) (C : ACell) (s : AOp) : Prop where
  top : Blk w L.v (L.cells C) 42
  lk : Blk w L.lk (C.L.map (.int .i64)) 2
  op : Blk w o s.cells 30
  vl : L.v ≠ L.lk
  vo : L.v ≠ o
  lo : L.lk ≠ o
  len : C.L.length = 6

theorem HasRef.setV {w : World} {L : Lay} {o : Nat} {C C' : ACell} {s : AOp} (h : HasRef w L o C s) (i : Nat) (v : Value) (e : (L.cells C).set i v = L.cells C') (eL : C'.L = C.L) : HasRef (w.setCell ⟨L.v, i, none⟩ v) L o C' s :=
  ⟨by have := h.top.set i v; rw [e] at this; exact this, by rw [eL]; exact h.lk.other (Ne.symm h.vl) _, h.op.other (Ne.symm h.vo) _, h.vl, h.vo, h.lo, by rw [eL]; exact h.len⟩
theorem HasRef.setO {w : World} {L : Lay} {o : Nat} {C : ACell} {s s' : AOp} (h : HasRef w L o C s) (i : Nat) (v : Value) (e : s.cells.set i v = s'.cells) : HasRef (w.setCell ⟨o, i, none⟩ v) L o C s' :=
  ⟨h.top.other h.vo _, h.lk.other h.lo _, by have := h.op.set i v; rw [e] at this; exact this, h.vl, h.vo, h.lo, h.len⟩
theorem HasRef.setL {w : World} {L : Lay} {o : Nat} {C : ACell} {s : AOp} (h : HasRef w L o C s) (i : Nat) (n : Int) : HasRef (w.setCell ⟨L.lk, i, none⟩ (.int .i64 n)) L o { C with L := C.L.set i n } s :=
  ⟨h.top.other h.vl _, by have := h.lk.set i (.int .i64 n); simpa [List.map_set] using this, h.op.other (Ne.symm h.lo) _, h.vl, h.vo, h.lo, by simpa using h.len⟩
theorem HasRef.drew {w : World} {L : Lay} {o : Nat} {C : ACell} {s : AOp} (h : HasRef w L o C s) : HasRef w.drew L o C s := ⟨h.top.drew, h.lk.drew, h.op.drew, h.vl, h.vo, h.lo, h.len⟩

def RPost (w : World) (L : Lay) (o : Nat) (C : ACell) (s : AOp) (e : Ending) (w' : World) : Prop := e = .returned (.tuple #[]) ∧ HasRef w' L o C s ∧ Only [L.v, L.lk, o] w w'

end Go.Proofs.Ytglifjecihmbhaa
