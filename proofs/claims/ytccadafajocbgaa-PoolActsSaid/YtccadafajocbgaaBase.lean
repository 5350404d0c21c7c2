/- Rows of cells by blocks, and what may have turned: the words in which my contracts are said. -/
import Derived.Test.YtccadafajocbgaaRows
import Derived.WalkKit
import Derived.Deep.QuietTactic
import Derived.BigQuiet
import Derived.Lib.Hide
import Derived.IntWalk
import Derived.WalkLawsBesides
import Derived.WalkSpells
import Derived.Deep.RegionWith
open Go Go.RowKit
namespace Go.Proofs.Ytccadafajocbgaa

/-- Block b of w is a row of cells c, of element type t, none frozen. -/
def Blk (w : World) (b : Nat) (c : List Value) (t : TypeId) : Prop := w.heap[b]? = some (.cells c.toArray t (0, 0))

/-- Of what was there, only the blocks in S may have turned. -/
structure Only (S : List Nat) (w w' : World) : Prop where
  os : w'.os = w.os
  tape : w'.tape = w.tape
  output : w'.output = w.output
  size : w.heap.size ≤ w'.heap.size
  block : ∀ k, k < w.heap.size → k ∉ S → w'.heap[k]? = w.heap[k]?

theorem Only.refl (S : List Nat) (w : World) : Only S w w := ⟨rfl, rfl, rfl, Nat.le_refl _, fun _ _ _ => rfl⟩
theorem Only.trans {S : List Nat} {a b c : World} (h : Only S a b) (k : Only S b c) : Only S a c :=
  ⟨k.os.trans h.os, k.tape.trans h.tape, k.output.trans h.output, Nat.le_trans h.size k.size,
    fun i hi hs => (k.block i (Nat.lt_of_lt_of_le hi h.size) hs).trans (h.block i hi hs)⟩
theorem Only.mono {S T : List Nat} {a b : World} (h : Only S a b) (hst : ∀ k, k ∈ S → k ∈ T) : Only T a b :=
  ⟨h.os, h.tape, h.output, h.size, fun i hi hs => h.block i hi (fun hk => hs (hst i hk))⟩
theorem Only.alloc {S : List Nat} {a w : World} (h : Only S a w) (o : Obj) : Only S a (w.alloc o) :=
  h.trans ⟨rfl, rfl, rfl, by simp, fun k hk _ => Below.heap_alloc _ _ _ hk⟩
theorem Only.drew {S : List Nat} {a w : World} (h : Only S a w) : Only S a w.drew := ⟨h.os, h.tape, h.output, h.size, h.block⟩
theorem Only.drewN {S : List Nat} {a w : World} (h : Only S a w) (n : Nat) : Only S a (w.drewN n) := ⟨h.os, h.tape, h.output, h.size, h.block⟩
/-- a store into a block of S -/
theorem Only.setCell {S : List Nat} {a w : World} (h : Only S a w) {p : Addr} (hp : p.block ∈ S) (u : Value) : Only S a (w.setCell p u) :=
  h.trans ⟨rfl, rfl, rfl, by simp [World.setCell], fun k _ hs => Below.heap_setCell _ _ _ _ (fun e => hs (e ▸ hp))⟩
/-- a store into a block that was not there -/
theorem Only.setNew {S : List Nat} {a w : World} (h : Only S a w) {p : Addr} (hp : a.heap.size ≤ p.block) (u : Value) : Only S a (w.setCell p u) :=
  ⟨h.os, h.tape, h.output, by simpa using h.size,
    fun k hk hs => (Below.heap_setCell _ _ _ _ (by omega)).trans (h.block k hk hs)⟩
/-- blocks that were not there need not be named -/
theorem Only.drop {S T : List Nat} {a b : World} (h : Only S a b) (hst : ∀ k, k ∈ S → k < a.heap.size → k ∈ T) : Only T a b :=
  ⟨h.os, h.tape, h.output, h.size, fun i hi hs => h.block i hi (fun hk => hs (hst i hk hi))⟩
theorem Only.below {S : List Nat} {w w' : World} {B : Nat} (h : Only S w w') (hB : B ≤ w.heap.size) (hs : ∀ k, k ∈ S → B ≤ k) : Below B w w' :=
  ⟨h.os, h.tape, h.output, h.size, fun k hk => h.block k (by omega) (fun hk' => by have := hs k hk'; omega)⟩
theorem Only.size' {S : List Nat} {w w' : World} (h : Only S w w') {k : Nat} (hk : k < w.heap.size) : k < w'.heap.size := Nat.lt_of_lt_of_le hk h.size

theorem Blk.lt {w : World} {b : Nat} {c : List Value} {t : TypeId} (h : Blk w b c t) : b < w.heap.size := lt_of_block h
theorem Blk.cell {w : World} {b : Nat} {c : List Value} {t : TypeId} (h : Blk w b c t) (i : Nat) : w.cell? ⟨b, i, none⟩ = c[i]? := by
  unfold Blk at h; simp [World.cell?, h]
theorem Blk.free {w : World} {b : Nat} {c : List Value} {t : TypeId} (h : Blk w b c t) (i : Nat) : w.frozen? ⟨b, i, none⟩ = false := by
  unfold Blk at h; simp [World.frozen?, h]
theorem Blk.only {S : List Nat} {w w' : World} {b : Nat} {c : List Value} {t : TypeId} (h : Blk w b c t) (ho : Only S w w') (hb : b ∉ S) : Blk w' b c t :=
  (ho.block b h.lt hb).trans h
theorem Blk.alloc {w : World} {b : Nat} {c : List Value} {t : TypeId} (h : Blk w b c t) (o : Obj) : Blk (w.alloc o) b c t :=
  (Below.heap_alloc _ _ _ h.lt).trans h
theorem Blk.new (w : World) (c : List Value) (t : TypeId) : Blk (w.alloc (.cells c.toArray t)) w.heap.size c t := by
  show (w.heap.push _)[w.heap.size]? = _
  simp
theorem Blk.drew {w : World} {b : Nat} {c : List Value} {t : TypeId} (h : Blk w b c t) : Blk w.drew b c t := h
theorem Blk.drewN {w : World} {b : Nat} {c : List Value} {t : TypeId} (h : Blk w b c t) (n : Nat) : Blk (w.drewN n) b c t := h
theorem Blk.set {w : World} {b : Nat} {c : List Value} {t : TypeId} (h : Blk w b c t) (i : Nat) (v : Value) : Blk (w.setCell ⟨b, i, none⟩ v) b (c.set i v) t := by
  have hlt := h.lt
  unfold Blk at h ⊢
  have h' : w.heap[b] = .cells c.toArray t (0, 0) := by simpa [Array.getElem?_eq_getElem hlt] using h
  show (w.heap.modify b _)[b]? = _
  rw [Array.getElem?_eq_getElem (by simpa using hlt), Array.getElem_modify_self, h']
  simp
theorem Blk.other {w : World} {b : Nat} {c : List Value} {t : TypeId} (h : Blk w b c t) {p : Addr} (hp : b ≠ p.block) (v : Value) : Blk (w.setCell p v) b c t :=
  (Below.heap_setCell _ _ _ _ hp).trans h
theorem Only.nil_below {w w' : World} (h : Only [] w w') : Below w.heap.size w w' := h.below (Nat.le_refl _) (fun k hk => by simp at hk)
theorem below_only {B : Nat} {S : List Nat} {w w1 w2 : World} (h : Below B w w1) (hB : B ≤ w.heap.size) (ho : Only S w1 w2) (hs : ∀ k, k ∈ S → B ≤ k) : Below B w w2 :=
  h.trans (ho.below (Nat.le_trans hB h.size) hs)
theorem below_only3 {B m a b : Nat} {w w1 w2 : World} (h : Below B w w1) (hB : B ≤ w.heap.size) (ho : Only [m, a, b] w1 w2) (hm : B ≤ m) (ha : B ≤ a) (hb : B ≤ b) : Below B w w2 :=
  below_only h hB ho (fun k hk => by simp at hk; omega)
theorem below_below {B : Nat} {w w1 w2 : World} (h : Below B w w1) (hB : B ≤ w.heap.size) (k : Below w1.heap.size w1 w2) : Below B w w2 :=
  h.trans (k.mono (Nat.le_trans hB h.size))
theorem set_same {w : World} {a : Addr} {u : Value} (h : w.cell? a = some u) (v : Value) : (w.setCell a v).cell? a = some v := World.cell?_setCell_same _ _ _ h

end Go.Proofs.Ytccadafajocbgaa
