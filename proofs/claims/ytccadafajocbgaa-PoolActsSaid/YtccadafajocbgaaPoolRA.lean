/- Layer 10: the document's pool, by the program's plain state; a number put in front of a row. -/
import Derived.Test.YtccadafajocbgaaPoolY
import Derived.Test.YtccadafajocbgaaPoolU
import Derived.Deep.RegionLaw
import Derived.Laws.AppendOwn
import Derived.ArgAppend
open Go Go.RowKit
namespace Go.Proofs.Ytccadafajocbgaa

section
variable {P : Program} {w : World} {B : Nat}

/-- append([]int{x}, row...) of any row. -/
theorem run_append_front (t ty : TypeId) (i : TypeInfo) (ht : P.underlying t = some (.slice 3)) (hi : P.info? 3 = some i) (hz : i.zero = some (.int .i64 0)) (hsize : i.size = 1) (hby : i.bytes = 8)
    (g0 : Nat) (x : Int) (hg : Blk w g0 [.int .i64 x] 3) (hB : B ≤ g0) (hBw : B ≤ w.heap.size) (v : Value) (l : List Int) (hv : Rd w B v l) (hl : l.length ≤ 400000) :
    ∃ v' w', (Builtin.append_ #[t, t] ty #[.slice (some ⟨g0, 0, none⟩) 1 1, v]).run P w = .ok v' w' ∧ Rd w' B v' (x :: l) ∧ Turn (fun _ => False) w w' ∧ ∀ k, v'.ownBlock = some k → k = g0 ∨ w.heap.size ≤ k := by
  by_cases h0 : l = []
  · subst h0
    have hres : Rd w B (.slice (some ⟨g0, 0, none⟩) 1 1) [x] := .inr ⟨g0, 0, 1, [.int .i64 x], rfl, by simp, hB, hg, fun i u hu => by
      rcases i with _ | i
      · simp at hu; subst hu; rfl
      · simp at hu⟩
    rcases hv with ⟨rfl, _⟩ | ⟨g, off, cap, cs, rfl, _⟩
    · refine ⟨_, w, ?_, hres, Turn.refl _ _, fun k hk => .inl (by simp [Value.ownBlock] at hk; exact hk.symm)⟩
      simp [Builtin.append_, run_underlying ht, sizeOf, typeInfo, hi, Builtin.lenOf, Builtin.firstCells, storeCells]
    · have := run_append_room_cells (P := P) w t ty 3 i ht hi g0 0 1 1 ⟨g, off, none⟩ 0 cap [] (by simp) (by simp) (by simp) (by omega) (by simp) (by simp)
      exact ⟨_, _, this, hres, Turn.refl _ _, fun k hk => .inl (by simp [Value.ownBlock] at hk; exact hk.symm)⟩
  · rcases hv with ⟨_, h⟩ | ⟨g, off, cap, cs, rfl, hc, hb, hk, hr⟩
    · exact absurd h h0
    · have hlen : 0 < l.length := List.length_pos_iff.2 h0
      obtain ⟨v', w', hrun, hown, hgr⟩ := run_append_arg_grows (P := P) w t ty 3 i (.int .i64 0) 1 8 ht hi hz hsize hby rfl (by decide) ⟨g0, 0, none⟩ 1 1 [.int .i64 x] rfl (fun j u hj => by
          rcases j with _ | j
          · simp at hj; subst hj; rw [Addr.add_lit, hg.cell]; rfl
          · simp at hj) ⟨g, off, none⟩ l.length cap (l.map (Value.int .i64)) (by simp) (fun j u hj => by
          rw [List.getElem?_map] at hj
          cases hlj : l[j]? with
          | none => rw [hlj] at hj; cases hj
          | some y => rw [hlj] at hj; injection hj with hj; subst hj; rw [Addr.add_lit, hk.cell]; exact hr j y hlj) (by omega) (by unfold maxLen; omega) (by omega)
      refine ⟨v', w', hrun, ?_, (Turn.of_grown hgr).mono (fun k hk => by cases hk), fun k hk => .inr (hown.lt k hk).1⟩
      have hrow : RowI w' w.heap.size v' (x :: l) := by
        unfold RowI
        have e : (x :: l).length = 1 + l.length := by simp; omega
        rw [e]; exact hown
      have h1 := RowI.rd hrow
      rcases h1 with h1 | ⟨g', off', cap', cs', e1, e2, e3, e4, e5⟩
      · exact .inl h1
      · exact .inr ⟨g', off', cap', cs', e1, e2, Nat.le_trans hBw e3, e4, e5⟩

theorem step_append_front {ops : Array Oper} {o : Oper} {a : Act} {K : Act → World → Prop} {Q : Exit → Act → World → Prop} {E : Prop} (hgd : o.guard = none) (sl x0 : Operand) (t : TypeId)
    (ho : o.op = .call { callee := .builtin .append, args := #[sl, x0], argTypes := #[t, t] })
    (i : TypeInfo) (ht : P.underlying t = some (.slice 3)) (hi : P.info? 3 = some i) (hz : i.zero = some (.int .i64 0)) (hsize : i.size = 1) (hby : i.bytes = 8)
    (g0 : Nat) (x : Int) (hs : a.eval sl = .slice (some ⟨g0, 0, none⟩) 1 1) (hg : Blk w g0 [.int .i64 x] 3) (hB : B ≤ g0) (hBw : B ≤ w.heap.size) (v : Value) (l : List Int) (hx : a.eval x0 = v) (hv : Rd w B v l) (hl : l.length ≤ 400000)
    (h : ∀ v' w', Rd w' B v' (x :: l) → Turn (fun _ => False) w w' → (∀ k, v'.ownBlock = some k → k = g0 ∨ w.heap.size ≤ k) → K (a.put o.dst v') w') :
    if Region.wanted o (yielded ops a.tmps) = true then Oper.wp P o a w K Q else E := by
  have hw : Region.wanted o (yielded ops a.tmps) = true := by simp [Region.wanted, hgd]
  rw [if_pos hw]
  obtain ⟨v', w', hr, h2, h3, h4⟩ := run_append_front (P := P) (w := w) (B := B) t o.type i ht hi hz hsize hby g0 x hg hB hBw v l hv hl
  unfold Oper.wp execOp
  simp only [ho, resolve, invoke, builtin, Sem.run_bind, Sem.run_pure, Result.andThen_ok, List.map_toArray, List.map_cons, List.map_nil, hs, hx, hr]
  exact h v' w' h2 h3 h4
end

/-- The document's pool at L.r reads as S (of shape s). -/
structure DocS (w : World) (B : Nat) (L : RLay) (s : Shp) (S : PS) : Prop where
  lies : RLies false w B L s S.row (false :: S.blks.map PB.taken)
  W : S.W = s.W
  N : S.blks.length = s.off 3
  info : ∀ x, S.there x → (S.blk x).owner = (s.place 0 (x - 1).toNat).owner ∧ (S.blk x).cls = (s.place 0 (x - 1).toNat).cls

section
variable {w w1 w' : World} {B : Nat} {L : RLay} {s : Shp} {S : PS} {F : Nat → Prop}

theorem DocS.turn (h : DocS w B L s S) (ht : Turn F w w') (hF : ∀ k, L.own s.W k → ¬ F k) : DocS w' B L s S := ⟨h.lies.turn ht hF, h.W, h.N, h.info⟩
theorem DocS.still (h : DocS w B L s S) (ht : Turn (fun _ => False) w w') : DocS w' B L s S := h.turn ht (fun _ _ q => q)
theorem DocS.tkLen (h : DocS w B L s S) : (false :: S.blks.map PB.taken).length = s.off 3 + 1 := by simp [h.N]
theorem DocS.there (h : DocS w B L s S) {x : Int} : S.there x ↔ 1 ≤ x ∧ x ≤ s.off 3 := by unfold PS.there; rw [h.N]
theorem DocS.place (h : DocS w B L s S) {x : Int} (hx : S.there x) : (S.blk x).owner < s.W ∧ (S.blk x).cls < 3 := by
  have hx' := h.there.1 hx
  have hj : (x - 1).toNat < s.off 3 := by omega
  obtain ⟨e1, e2⟩ := h.info x hx
  rw [e1, e2]
  obtain ⟨b1, b2, b3⟩ := Shp.cl_spec (s := s) (j := (x - 1).toNat) hj
  refine ⟨?_, b1⟩
  show ((x - 1).toNat - s.off (s.cl (x - 1).toNat)) / s.n (s.cl (x - 1).toNat) < s.W
  rw [Shp.off] at b3
  rcases Nat.eq_zero_or_pos (s.n (s.cl (x - 1).toNat)) with e | e
  · rw [e, Nat.mul_zero] at b3; omega
  · rw [Nat.div_lt_iff_lt_mul e]; omega

/-- Row k becomes another. -/
theorem DocS.setRow (h : DocS w B L s S) {k : Nat} {l : List Int} {L' : RLay} (hl : RLies false w' B L' s (fun j => if j = k then l else S.row j) (false :: S.blks.map PB.taken)) : DocS w' B L' s (S.setRow k l) :=
  ⟨hl, h.W, h.N, h.info⟩

/-- Behind a call on the document's pool. -/
def DPost (w : World) (B : Nat) (L : RLay) (s : Shp) (S' : PS) (r : Value) (e : Ending) (w' : World) : Prop :=
  e = .returned r ∧ ∃ L', L'.r = L.r ∧ DocS w' B L' s S' ∧ Turn (fun k => L.own s.W k) w w' ∧ ∀ k, L'.own s.W k → L.own s.W k ∨ w.heap.size ≤ k

theorem DocS.same (h : DocS w B L s S) (r : Value) : DPost w B L s S r (.returned r) w := ⟨rfl, L, rfl, h, Turn.refl _ _, fun _ q => .inl q⟩
theorem DocS.stillPost (h : DocS w B L s S) (ht : Turn (fun _ => False) w w') (r : Value) : DPost w B L s S r (.returned r) w' :=
  ⟨rfl, L, rfl, h.still ht, ht.mono (fun _ q => q.elim), fun _ q => .inl q⟩

theorem RLies.cellF {o : Bool} {rows : Nat → List Int} {tk : List Bool} (h : RLies o w B L s rows tk) {a c : Nat} (ha : a < s.W) (hc : c < 3) : w.cell? ⟨L.f, a * 3 + c, none⟩ = some (L.V (4 * a + c)) ∧ w.frozen? ⟨L.f, a * 3 + c, none⟩ = false := by
  refine ⟨?_, h.frees.free _⟩
  rw [h.frees.cell]
  unfold RLay.frees
  rw [List.getElem?_map, List.getElem?_range (by omega)]
  simp only [Option.map_some]
  rw [show 4 * ((a * 3 + c) / 3) + (a * 3 + c) % 3 = 4 * a + c by omega]
theorem RLies.cellQ {o : Bool} {rows : Nat → List Int} {tk : List Bool} (h : RLies o w B L s rows tk) {a : Nat} (ha : a < s.W) : w.cell? ⟨L.q, a, none⟩ = some (L.V (4 * a + 3)) ∧ w.frozen? ⟨L.q, a, none⟩ = false := by
  refine ⟨?_, h.fars.free _⟩
  rw [h.fars.cell]
  unfold RLay.fars
  rw [List.getElem?_map, List.getElem?_range ha]
  rfl
end

end Go.Proofs.Ytccadafajocbgaa
