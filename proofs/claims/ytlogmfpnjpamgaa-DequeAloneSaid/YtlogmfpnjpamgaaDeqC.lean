/- Layer 9: an operation and what may have turned, in one word; the small methods' contracts over it. -/
import Derived.Test.YtlogmfpnjpamgaaDeqB
open Go Go.RowKit
namespace Go.Proofs.Ytlogmfpnjpamgaa

structure HW (w0 w : World) (o m a b : Nat) (s : OpD) (D : Dq) : Prop where
  h : HasD w o m a b s D
  f : Only [o, m, a, b] w0 w

section
variable {w0 w : World} {o m a b : Nat} {s : OpD} {D : Dq}

theorem HW.setX (h : HW w0 w o m a b s D) (v : Int) : HW w0 (w.setCell ⟨o, 3, none⟩ (.int .i64 v)) o m a b { s with x := v } D := ⟨h.h.set 3 _ rfl rfl rfl, h.f.setCell (by simp) _⟩
theorem HW.setE (h : HW w0 w o m a b s D) (v : Int) : HW w0 (w.setCell ⟨o, 4, none⟩ (.int .i64 v)) o m a b { s with e := v } D := ⟨h.h.set 4 _ rfl rfl rfl, h.f.setCell (by simp) _⟩
theorem HW.setT (h : HW w0 w o m a b s D) (v : Int) : HW w0 (w.setCell ⟨o, 5, none⟩ (.int .i64 v)) o m a b { s with t := v } D := ⟨h.h.set 5 _ rfl rfl rfl, h.f.setCell (by simp) _⟩
theorem HW.setN (h : HW w0 w o m a b s D) (n : Nat) : HW w0 (w.setCell ⟨o, 6, none⟩ (.func (.func n) #[.pointer (some ⟨o, 0, none⟩)] #[])) o m a b { s with next := n } D := ⟨h.h.set 6 _ rfl rfl rfl, h.f.setCell (by simp) _⟩
theorem HW.only0 {w' : World} (h : HW w0 w o m a b s D) (ho : Only [] w w') : HW w0 w' o m a b s D := ⟨h.h.only0 ho, h.f.trans (ho.mono (by simp))⟩
theorem HW.drew (h : HW w0 w o m a b s D) : HW w0 w.drew o m a b s D := h.only0 (Only.refl _ _).drew
theorem HW.drewN (h : HW w0 w o m a b s D) (n : Nat) : HW w0 (w.drewN n) o m a b s D := h.only0 ((Only.refl _ _).drewN n)

theorem HW.facts (h : HW w0 w o m a b s D) :
    w.cell? ⟨o, 0, none⟩ = some (.int .i64 s.kind) ∧ w.cell? ⟨o, 1, none⟩ = some (.int .i64 s.base) ∧ w.cell? ⟨o, 2, none⟩ = some (.int .i64 s.room) ∧ w.cell? ⟨o, 3, none⟩ = some (.int .i64 s.x) ∧ w.cell? ⟨o, 4, none⟩ = some (.int .i64 s.e) ∧
    w.cell? ⟨o, 5, none⟩ = some (.int .i64 s.t) ∧ w.cell? ⟨o, 6, none⟩ = some (.func (.func s.next) #[.pointer (some ⟨o, 0, none⟩)] #[]) ∧ w.cell? ⟨o, 7, none⟩ = some (.bool s.ended) ∧ w.cell? ⟨o, 8, none⟩ = some (.int .i64 s.result) ∧
    w.cell? ⟨o, 9, none⟩ = some (.int .i64 s.why) ∧ w.cell? ⟨o, 10, none⟩ = some (.bool s.owner) ∧ o < w.heap.size ∧ w.frozen? ⟨o, 3, none⟩ = false ∧ w.frozen? ⟨o, 4, none⟩ = false ∧ w.frozen? ⟨o, 5, none⟩ = false ∧ w.frozen? ⟨o, 6, none⟩ = false :=
  ⟨h.h.op.cell 0, h.h.op.cell 1, h.h.op.cell 2, h.h.op.cell 3, h.h.op.cell 4, h.h.op.cell 5, h.h.op.cell 6, h.h.op.cell 7, h.h.op.cell 8, h.h.op.cell 9, h.h.op.cell 10, h.h.op.lt, h.h.op.free 3, h.h.op.free 4, h.h.op.free 5, h.h.op.free 6⟩

def HPost (w0 : World) (o m a b : Nat) (r : Value) (s : OpD) (D : Dq) (e : Ending) (w' : World) : Prop := e = .returned r ∧ HW w0 w' o m a b s D

theorem epost (h : HW w0 w o m a b s D) {f : FuncId} {args : Array Value} {r : Value} {s' : OpD} {D' : Dq} (hc : Calls Try.prog f args w (EPost w o m a b r s' D')) : Calls Try.prog f args w (HPost w0 o m a b r s' D') :=
  hc.mono (by rintro e w' ⟨rfl, h1, h2⟩; exact ⟨rfl, h1, h.f.trans h2⟩)
theorem opost (h : HW w0 w o m a b s D) {f : FuncId} {args : Array Value} {r : Value} (hc : Calls Try.prog f args w (fun e w' => e = .returned r ∧ Only [] w w')) : Calls Try.prog f args w (HPost w0 o m a b r s D) :=
  hc.mono (by rintro e w' ⟨rfl, h1⟩; exact ⟨rfl, h.only0 h1⟩)
theorem spost (h : HW w0 w o m a b s D) {f : FuncId} {args : Array Value} {r : Value} (hc : Calls Try.prog f args w (fun e w' => e = .returned r ∧ w = w')) : Calls Try.prog f args w (HPost w0 o m a b r s D) :=
  hc.mono (by rintro e w' ⟨rfl, rfl⟩; exact ⟨rfl, h⟩)

theorem w_ends (h : HW w0 w o m a b s D) (why : Int) : Calls Try.prog 45 #[.pointer (some ⟨o, 0, none⟩), .int .i64 why] w (HPost w0 o m a b (.tuple #[]) (s.endsW why) D) := epost h (dends_any o m a b s D why w h.h)
theorem w_done (h : HW w0 w o m a b s D) : Calls Try.prog 80 #[.pointer (some ⟨o, 0, none⟩)] w (HPost w0 o m a b (.tuple #[]) s.doneW D) := epost h (ddone_any o m a b s D w h.h)
theorem w_over (h : HW w0 w o m a b s D) (he : s.ended = false) : Calls Try.prog 68 #[.pointer (some ⟨o, 0, none⟩)] w (HPost w0 o m a b (.tuple #[]) (s.endsW 0) D) := epost h (dover_any o m a b s D w h.h he)
theorem w_kept (h : HW w0 w o m a b s D) (he : s.ended = false) : Calls Try.prog 74 #[.pointer (some ⟨o, 0, none⟩)] w (HPost w0 o m a b (.tuple #[]) s.doneW D) := epost h (dkept_any o m a b s D w h.h he)
theorem w_taken (h : HW w0 w o m a b s D) (is : Bool) (he : s.ended = false) : Calls Try.prog 72 #[.pointer (some ⟨o, 0, none⟩), .bool is] w (HPost w0 o m a b (.tuple #[]) (s.takenW is) D) := epost h (dtaken_any o m a b s D is w h.h he)
theorem w_load (h : HW w0 w o m a b s D) (at_ : Int) (k : Nat) (hk : k < s.room + 2) (ha : at_ = ((s.base + k : Nat) : Int)) : Calls Try.prog 42 #[.pointer (some ⟨o, 0, none⟩), .pointer (some ⟨m, 0, none⟩), .int .i64 at_] w (HPost w0 o m a b (.int .i64 (D k)) s D) := epost h (dload_any o m a b s D at_ k w h.h hk ha)
theorem w_store (h : HW w0 w o m a b s D) (at_ n : Int) (k : Nat) (hk : k < s.room + 2) (ha : at_ = ((s.base + k : Nat) : Int)) : Calls Try.prog 57 #[.pointer (some ⟨o, 0, none⟩), .pointer (some ⟨m, 0, none⟩), .int .i64 at_, .int .i64 n] w (HPost w0 o m a b (.tuple #[]) s (D.put k n)) := epost h (dstore_any o m a b s D at_ n k w h.h hk ha)
theorem w_swap (h : HW w0 w o m a b s D) (n : Int) : Calls Try.prog 73 #[.pointer (some ⟨o, 0, none⟩), .pointer (some ⟨m, 0, none⟩), .int .i64 n] w (HPost w0 o m a b (.bool (D.hit 1 s.t)) s (D.swap 1 s.t n)) := epost h (dswap_any o m a b s D n w h.h)
theorem w_end (h : HW w0 w o m a b s D) (kind base room : Int) : Calls Try.prog 43 #[.agg #[.int .i64 kind, .int .i64 base, .int .i64 room]] w (HPost w0 o m a b (.int .i64 base) s D) := opost h (dend_any kind base room w)
theorem w_top (h : HW w0 w o m a b s D) (kind base room : Int) (h0 : 0 ≤ base) (h1 : base ≤ 100000) : Calls Try.prog 46 #[.agg #[.int .i64 kind, .int .i64 base, .int .i64 room]] w (HPost w0 o m a b (.int .i64 (base + 1)) s D) := opost h (dtop_any kind base room w h0 h1)
theorem w_slot (h : HW w0 w o m a b s D) (kind : Int) (base room : Nat) (n : Int) (h1 : base ≤ 100000) (h2 : 1 ≤ room ∧ room ≤ 1000) (h3 : 0 ≤ n) (h4 : n < 4611686018427387904) : Calls Try.prog 58 #[.agg #[.int .i64 kind, .int .i64 base, .int .i64 room], .int .i64 n] w (HPost w0 o m a b (.int .i64 ((base + (2 + n.toNat % room) : Nat) : Int)) s D) := by
  obtain ⟨q, rfl⟩ : ∃ q : Nat, n = q := ⟨n.toNat, by omega⟩
  exact opost h (dslot_any kind base room q w h1 h2.1 h2.2 (by omega))
theorem w_pair (h : HW w0 w o m a b s D) (tag place : Int) (h0 : 0 ≤ tag) (h1 : tag < 1099511627776) (p0 : 0 ≤ place) (p1 : place < 65536) : Calls Try.prog 69 #[.int .i64 tag, .int .i64 place] w (HPost w0 o m a b (.int .i64 (tag * 65536 + place)) s D) := spost h (dpair_any tag place w h0 h1 p0 p1)
theorem w_tag (h : HW w0 w o m a b s D) : Calls Try.prog 70 #[.pointer (some ⟨o, 0, none⟩)] w (HPost w0 o m a b (.int .i64 (s.t / 65536)) s D) := spost h (dtag_any o s.t w (h.h.op.cell 5))
theorem w_place (h : HW w0 w o m a b s D) (h0 : 0 ≤ s.t) (h1 : s.t < 1152921504606846976) : Calls Try.prog 47 #[.pointer (some ⟨o, 0, none⟩)] w (HPost w0 o m a b (.int .i64 (s.t % 65536)) s D) := spost h (dplace_any o s.t w (h.h.op.cell 5) h0 h1)
end

end Go.Proofs.Ytlogmfpnjpamgaa
