/- A slice of structs that came in, each of some fields of one cell: what the walk of a law may read of it. -/
import Derived.Test.YtccadafajocbgaaArg
import Derived.Deep.Slices
import Derived.Deep.Fields
import Derived.ChangeSame
open Go Go.ChangeShapes Go.WideShapes Go.ChangeAt Go.RowKit Go.Deep
namespace Go.Proofs.Ytccadafajocbgaa

/-- The slice v holds len structs of n fields; field j of struct i is c i j. -/
def ArgRows (W : World) (v : Value) (len n : Nat) (c : Nat → Nat → Value) : Prop :=
  ∃ a cap, v = .slice a len cap ∧ (0 < len → ∃ b off, a = some ⟨b, off, none⟩ ∧ b < W.heap.size ∧ ∀ i, i < len → ∀ j, j < n → W.cell? ⟨b, off + i * n + j, none⟩ = some (c i j))

theorem arg_rows {H : Type} {enc : TypeId × Value → H} {P : Program} {W : World} {t e : TypeId} {fs : Array Field} {v : Value} {d : DataW H} {p : List MemPlace}
    (ht : P.underlying t = some (.slice e)) (he : P.underlying e = some (.struct fs)) (hone : oneCellFields P fs = true) (hC : P.cellsOf e = fs.size) (hpos : 0 < fs.size) {base : Nat} (hok : Value.okWide P W .any base t v)
    (h : DataW.Trod enc P W 0 (fun _ => true) true t v d p) (hlt : ∀ x ∈ p, x.block < W.heap.size) :
    ∃ (len : Nat) (c : Nat → Nat → Value), ArgRows W v len fs.size c ∧
      ∀ i, i < len → ∀ (j : Nat) (f : Field), fs[j]? = some f → ∃ (n : Nat) (y : DataW H × List MemPlace), DataW.trod enc P W 0 (fun _ => true) true n f.type [c i j] = some y := by
  obtain ⟨a0, len, cap, rfl⟩ := okWide_slice ht hok
  obtain ⟨fuel, hf⟩ := h
  rcases open_slice ht hf with ⟨hcs, hx⟩ | ⟨a, len', cap', m, n, D, Pl, hcs, _, hl, hm, hmm, hx, hi⟩
  · simp [Value.cells] at hcs
    obtain ⟨rfl, rfl, rfl⟩ := hcs
    exact ⟨0, fun _ _ => undef, ⟨none, 0, rfl, fun h => by omega⟩, fun i h => by omega⟩
  · simp [Value.cells] at hcs
    obtain ⟨rfl, rfl, rfl⟩ := hcs
    simp only [if_true] at hmm
    subst hmm
    simp only [Prod.mk.injEq] at hx
    obtain ⟨rfl, rfl⟩ := hx
    rw [hC] at hi hlt
    refine ⟨len, fun i j => (W.cell? (a.add (i * fs.size + j))).getD undef, ⟨some a, m, rfl, fun hp => ?_⟩, ?_⟩
    · obtain ⟨cs0, h0, _⟩ := hi 0 (by omega)
      obtain ⟨_, hcl, hat⟩ := World.cells?_some h0
      obtain ⟨b, off, spot⟩ := a
      have hspot : spot = none := by
        have := hat 0 hpos
        rw [List.getElem?_eq_getElem (by omega)] at this
        simpa [Addr.add] using World.cell?_spot this
      subst hspot
      refine ⟨b, off, rfl, hlt (.cell b off) (List.mem_append_left _ (MemPlace.mem_row.2 ⟨0, Nat.mul_pos (by omega) hpos, by simp⟩)), fun i hil j hj => ?_⟩
      obtain ⟨cs1, h1, _⟩ := hi i (by omega)
      obtain ⟨_, hcl1, hat1⟩ := World.cells?_some h1
      have e := hat1 j hj
      rw [Go.Deep.add_add, List.getElem?_eq_getElem (by omega)] at e
      show W.cell? _ = some ((W.cell? _).getD undef)
      rw [e, Nat.add_assoc, ← add_plain, e]
      rfl
    · intro i hil j f hj
      have hjl : j < fs.size := (Array.getElem?_eq_some_iff.1 hj).1
      obtain ⟨cs1, h1, ht1⟩ := hi i (by omega)
      obtain ⟨_, hcl1, hat1⟩ := World.cells?_some h1
      obtain ⟨ys, n', _, _, _, hyl, hfj⟩ := DataW.trod_struct he ht1
      obtain ⟨ho, hk⟩ := hone_of hone j f hj
      have e := hat1 j hjl
      rw [Go.Deep.add_add, List.getElem?_eq_getElem (by omega)] at e
      have g := hfj j f hj
      rw [ho, hk, List.drop_eq_getElem_cons (by omega), List.take_succ_cons, List.take_zero, List.getElem?_eq_getElem (by omega)] at g
      refine ⟨n', ys[j]'(by omega), ?_⟩
      show DataW.trod enc P W 0 _ true n' f.type [(W.cell? _).getD undef] = _
      rw [e]
      exact g

def numV : Value → Int | .int _ n => n | _ => 0
/-- are all fields of the kind int64 (or int)? -/
def allI64 (P : Program) (fs : Array Field) : Bool := fs.all fun f => match P.underlying f.type with | some (.int .i64) => true | _ => false

theorem arg_rows_i64 {H : Type} {enc : TypeId × Value → H} {P : Program} {W : World} {t e : TypeId} {fs : Array Field} {v : Value} {d : DataW H} {p : List MemPlace}
    (ht : P.underlying t = some (.slice e)) (he : P.underlying e = some (.struct fs)) (hone : oneCellFields P fs = true) (hC : P.cellsOf e = fs.size) (hpos : 0 < fs.size) (hall : allI64 P fs = true) {base : Nat} (hok : Value.okWide P W .any base t v)
    (h : DataW.Trod enc P W 0 (fun _ => true) true t v d p) (hlt : ∀ x ∈ p, x.block < W.heap.size) :
    ∃ (len : Nat) (z : Nat → Nat → Int), ArgRows W v len fs.size (fun i j => .int .i64 (z i j)) ∧ ∀ i, i < len → ∀ j, j < fs.size → (Lit.int .i64 (z i j)).wf = true := by
  obtain ⟨len, c, ⟨a, cap, hv, hc⟩, hf⟩ := arg_rows ht he hone hC hpos hok h hlt
  have hz : ∀ i, i < len → ∀ j, j < fs.size → c i j = .int .i64 (numV (c i j)) ∧ (Lit.int .i64 (numV (c i j))).wf = true := by
    intro i hi j hj
    obtain ⟨n, y, hy⟩ := hf i hi j fs[j] (Array.getElem?_eq_getElem hj)
    have h1 := Array.all_eq_true_iff_forall_mem.1 hall fs[j] (Array.getElem_mem hj)
    have hu : P.underlying (fs[j]).type = some (.int .i64) := by
      revert h1
      split
      · intro _; assumption
      · intro h; cases h
    obtain ⟨m, hm, _, hw⟩ := DataW.trod_int hu hy
    simp only [List.cons.injEq, and_true] at hm
    rw [hm]
    exact ⟨rfl, hw⟩
  refine ⟨len, fun i j => numV (c i j), ⟨a, cap, hv, fun hp => ?_⟩, fun i hi j hj => (hz i hi j hj).2⟩
  obtain ⟨b, off, ha, hb, hcell⟩ := hc hp
  exact ⟨b, off, ha, hb, fun i hi j hj => (hcell i hi j hj).trans (congrArg some (hz i hi j hj).1)⟩

end Go.Proofs.Ytccadafajocbgaa
