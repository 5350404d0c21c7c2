/- Layer 9: the law's own functions: who has no operation begins one. -/
import Derived.Test.YtlogmfpnjpamgaaDeqW
open Go Go.RowKit
namespace Go.Proofs.Ytlogmfpnjpamgaa

section
variable {w0 w w1 : World} {Y : Lay9} {kind room i p q : Nat} {Dm Dd : Dq} {po dh : Nat → Option DOp} {pushed : Nat} {full handed : List Int} {fv hv : Value}

theorem VX.rowF (h : VX w0 w Y kind room Dm Dd po dh pushed full handed fv hv) {fv' : Value} {x : Int} {w2 : World} (hg : w.grownBy w1 fv.ownBlock) (own' : w1.ownsRow w0.heap.size 2 1 fv' (full.length + 1) (full.map (Value.int .i64) ++ [.int .i64 x]))
    (hb : ∀ k, fv'.ownBlock = some k → fv.ownBlock = some k ∨ w.heap.size ≤ k) (ho : Only [Y.v] w1 w2) (ht : Blk w2 Y.v (WC Y.m Y.r kind room Y.hpo Y.hpw pushed fv' hv) 50) :
    VX w0 w2 { Y with tag := fun k => if fv'.ownBlock = some k then 6 else Y.tag k } kind room Dm Dd po dh pushed (full ++ [x]) handed fv' hv := by
  obtain ⟨t0, t1, t2, t3, t4, t5⟩ := h.tags
  have tg : ∀ k, k < w.heap.size → (if fv'.ownBlock = some k then 6 else Y.tag k) = Y.tag k := by
    intro k hk
    split
    · rename_i hf
      rcases hb k hf with hf | hf
      · exact (h.rowf.2 k hf).symm
      · omega
    · rfl
  have on : Only (Y.v :: fv.ownBlock.toList) w w2 := by
    refine ⟨ho.os.trans hg.os, ho.tape.trans hg.tape, ho.output.trans hg.output, Nat.le_trans hg.size ho.size, fun k hk hS => ?_⟩
    simp at hS
    exact (ho.block k (Nat.lt_of_lt_of_le hk hg.size) (by simp; exact hS.1)).trans (hg.block k hk (fun e => hS.2 e.symm))
  have hS : ∀ k, k ∈ Y.v :: fv.ownBlock.toList → Y.tag k = 0 ∨ Y.tag k = 6 := by
    intro k hk; simp at hk
    rcases hk with rfl | hk
    · exact .inl t0
    · exact .inr (h.rowf.2 k hk)
  have nin : ∀ k, Y.tag k ≠ 0 → Y.tag k ≠ 6 → k ∉ Y.v :: fv.ownBlock.toList := fun k a1 a2 hk => by have := hS k hk; omega
  obtain ⟨l1, l2, l3⟩ := h.mem.lt
  refine ⟨ht, h.mem.only3 on (nin _ (by omega) (by omega)) (nin _ (by omega) (by omega)) (nin _ (by omega) (by omega)), h.rt.only on (nin _ (by omega) (by omega)), h.rs.only on (nin _ (by omega) (by omega)), fun j hj => ?_, ⟨?_, fun k hk => if_pos hk⟩,
    ⟨h.rowh.1.only on (fun k hk => nin k (by have := h.rowh.2 k hk; omega) (by have := h.rowh.2 k hk; omega)), fun k hk => by show (if _ then 6 else Y.tag k) = 7; rw [tg k (World.ownsRow.lt h.rowh.1 k hk).2]; exact h.rowh.2 k hk⟩, ?_, h.ge,
    below_only h.bel (Nat.le_refl _) on (fun k hk => by simp at hk; rcases hk with rfl | hk; exact h.ge.1; exact (World.ownsRow.lt h.rowf.1 k hk).1), h.hk⟩
  · rcases h.hs j hj with a | ⟨p', q', o', d', e1, e2, e3, e4, bp', bq', tp', tq', gp', gq'⟩
    · exact .inl a
    · exact .inr ⟨p', q', o', d', e1, e2, e3, e4, bp'.only on (nin _ (by omega) (by omega)), bq'.only on (nin _ (by omega) (by omega)), (tg _ bp'.lt).trans tp', (tg _ bq'.lt).trans tq', gp', gq'⟩
  · have hk : ∀ k, fv'.ownBlock = some k → k ∉ [Y.v] := by
      intro k hk hm
      simp at hm; subst hm
      rcases hb _ hk with hf | hf
      · have := h.rowf.2 _ hf; omega
      · have := h.top.lt; omega
    have := own_kept own' (fun k hk' => ho.block k (World.ownsRow.lt own' k hk').2 (hk k hk'))
    unfold OwnI
    simpa using this
  · show (if _ then 6 else Y.tag Y.v) = 0 ∧ (if _ then 6 else Y.tag Y.m) = 1 ∧ (if _ then 6 else Y.tag Y.a) = 2 ∧ (if _ then 6 else Y.tag Y.b) = 3 ∧ (if _ then 6 else Y.tag Y.r) = 4 ∧ (if _ then 6 else Y.tag Y.l) = 5
    rw [tg _ h.top.lt, tg _ l1, tg _ l2, tg _ l3, tg _ h.rt.lt, tg _ h.rs.lt]
    exact h.tags

theorem VX.rowH (h : VX w0 w Y kind room Dm Dd po dh pushed full handed fv hv) {hv' : Value} {x : Int} {w2 : World} (hg : w.grownBy w1 hv.ownBlock) (own' : w1.ownsRow w0.heap.size 2 1 hv' (handed.length + 1) (handed.map (Value.int .i64) ++ [.int .i64 x]))
    (hb : ∀ k, hv'.ownBlock = some k → hv.ownBlock = some k ∨ w.heap.size ≤ k) (ho : Only [Y.v] w1 w2) (ht : Blk w2 Y.v (WC Y.m Y.r kind room Y.hpo Y.hpw pushed fv hv') 50) :
    VX w0 w2 { Y with tag := fun k => if hv'.ownBlock = some k then 7 else Y.tag k } kind room Dm Dd po dh pushed full (handed ++ [x]) fv hv' := by
  obtain ⟨t0, t1, t2, t3, t4, t5⟩ := h.tags
  have tg : ∀ k, k < w.heap.size → (if hv'.ownBlock = some k then 7 else Y.tag k) = Y.tag k := by
    intro k hk
    split
    · rename_i hf
      rcases hb k hf with hf | hf
      · exact (h.rowh.2 k hf).symm
      · omega
    · rfl
  have on : Only (Y.v :: hv.ownBlock.toList) w w2 := by
    refine ⟨ho.os.trans hg.os, ho.tape.trans hg.tape, ho.output.trans hg.output, Nat.le_trans hg.size ho.size, fun k hk hS => ?_⟩
    simp at hS
    exact (ho.block k (Nat.lt_of_lt_of_le hk hg.size) (by simp; exact hS.1)).trans (hg.block k hk (fun e => hS.2 e.symm))
  have hS : ∀ k, k ∈ Y.v :: hv.ownBlock.toList → Y.tag k = 0 ∨ Y.tag k = 7 := by
    intro k hk; simp at hk
    rcases hk with rfl | hk
    · exact .inl t0
    · exact .inr (h.rowh.2 k hk)
  have nin : ∀ k, Y.tag k ≠ 0 → Y.tag k ≠ 7 → k ∉ Y.v :: hv.ownBlock.toList := fun k a1 a2 hk => by have := hS k hk; omega
  obtain ⟨l1, l2, l3⟩ := h.mem.lt
  refine ⟨ht, h.mem.only3 on (nin _ (by omega) (by omega)) (nin _ (by omega) (by omega)) (nin _ (by omega) (by omega)), h.rt.only on (nin _ (by omega) (by omega)), h.rs.only on (nin _ (by omega) (by omega)), fun j hj => ?_,
    ⟨h.rowf.1.only on (fun k hk => nin k (by have := h.rowf.2 k hk; omega) (by have := h.rowf.2 k hk; omega)), fun k hk => by show (if _ then 7 else Y.tag k) = 6; rw [tg k (World.ownsRow.lt h.rowf.1 k hk).2]; exact h.rowf.2 k hk⟩, ⟨?_, fun k hk => if_pos hk⟩, ?_, h.ge,
    below_only h.bel (Nat.le_refl _) on (fun k hk => by simp at hk; rcases hk with rfl | hk; exact h.ge.1; exact (World.ownsRow.lt h.rowh.1 k hk).1), h.hk⟩
  · rcases h.hs j hj with a | ⟨p', q', o', d', e1, e2, e3, e4, bp', bq', tp', tq', gp', gq'⟩
    · exact .inl a
    · exact .inr ⟨p', q', o', d', e1, e2, e3, e4, bp'.only on (nin _ (by omega) (by omega)), bq'.only on (nin _ (by omega) (by omega)), (tg _ bp'.lt).trans tp', (tg _ bq'.lt).trans tq', gp', gq'⟩
  · have hk : ∀ k, hv'.ownBlock = some k → k ∉ [Y.v] := by
      intro k hk hm
      simp at hm; subst hm
      rcases hb _ hk with hf | hf
      · have := h.rowh.2 _ hf; omega
      · have := h.top.lt; omega
    have := own_kept own' (fun k hk' => ho.block k (World.ownsRow.lt own' k hk').2 (hk k hk'))
    unfold OwnI
    simpa using this
  · show (if _ then 7 else Y.tag Y.v) = 0 ∧ (if _ then 7 else Y.tag Y.m) = 1 ∧ (if _ then 7 else Y.tag Y.a) = 2 ∧ (if _ then 7 else Y.tag Y.b) = 3 ∧ (if _ then 7 else Y.tag Y.r) = 4 ∧ (if _ then 7 else Y.tag Y.l) = 5
    rw [tg _ h.top.lt, tg _ l1, tg _ l2, tg _ l3, tg _ h.rt.lt, tg _ h.rs.lt]
    exact h.tags

theorem VX.cells (h : VX w0 w Y kind room Dm Dd po dh pushed full handed fv hv) :
    w.cell? ⟨Y.v, 0, none⟩ = some (.pointer (some ⟨Y.m, 0, none⟩)) ∧ w.cell? ⟨Y.v, 1, none⟩ = some (.int .i64 kind) ∧ w.cell? ⟨Y.v, 2, none⟩ = some (.int .i64 3) ∧ w.cell? ⟨Y.v, 3, none⟩ = some (.int .i64 room) ∧ w.cell? ⟨Y.v, 4, none⟩ = some (.pointer (some ⟨Y.r, 0, none⟩)) ∧
    w.cell? ⟨Y.v, 13, none⟩ = some (.int .i64 pushed) ∧ w.cell? ⟨Y.v, 14, none⟩ = some fv ∧ w.cell? ⟨Y.v, 15, none⟩ = some hv :=
  ⟨h.top.cell 0, h.top.cell 1, h.top.cell 2, h.top.cell 3, h.top.cell 4, h.top.cell 13, h.top.cell 14, h.top.cell 15⟩
theorem VX.cellO (h : VX w0 w Y kind room Dm Dd po dh pushed full handed fv hv) (hi : i < 4) : w.cell? ⟨Y.v, 5 + i * 2, none⟩ = some (pt (Y.hpo i)) := by rw [h.top.cell, WC_getO hi]
theorem VX.cellW (h : VX w0 w Y kind room Dm Dd po dh pushed full handed fv hv) (hi : i < 4) : w.cell? ⟨Y.v, 5 + i * 2 + 1, none⟩ = some (pt (Y.hpw i)) := by rw [h.top.cell, WC_getW hi]

/-- What begin comes to. -/
def Begun (w0 : World) (Y : Lay9) (kind room i : Nat) (D : Dq) (hs : Nat → Option DOp) (o : DOp) (pushed' : Nat) (full handed : List Int) (fv hv : Value) (e : Ending) (w' : World) : Prop :=
  e = .returned (.tuple #[]) ∧ ∃ Y', VX w0 w' Y' kind room D D (upd hs i (some o)) (upd hs i (some o)) pushed' full handed fv hv ∧ Y'.v = Y.v

theorem begin_fin {D : Dq} {hs : Nat → Option DOp} {w2 : World} {o : DOp} {n : Nat} (h : VX w0 w Y kind room D D hs hs pushed full handed fv hv) (hi : i < 4) (hb : Blk w2 p ((o.prog kind 3 room).cells p) 76) (np : w.heap.size ≤ p) (ho : Only [] w w2) :
    Begun w0 Y kind room i D hs o pushed full handed fv hv (.returned (.tuple #[])) ((((w2.setCell ⟨Y.v, 5 + i * 2, none⟩ (.pointer (some ⟨p, 0, none⟩))).setCell ⟨Y.v, 5 + i * 2 + 1, none⟩ (.pointer (some ⟨w2.heap.size, 0, none⟩))).alloc (.cells o.cells.toArray 70)).drewN n) := by
  have h2 := h.only0 ho
  have hv := h.top.lt
  have hs2 := ho.size
  have hpl := hb.lt
  refine ⟨rfl, _, VX.begin (p := p) (q := w2.heap.size) h hi o ?_ ?_ ?_ ?_ np hs2 (by omega), rfl⟩
  · exact ((((ho.mono (by simp)).setCell (by simp) _).setCell (by simp) _).alloc _).drewN n
  · exact (((h2.top.setAs (5 + i * 2) (pt (some p)) (WC_setO (some p) hi)).setAs (5 + i * 2 + 1) (pt (some w2.heap.size)) (WC_setW (some w2.heap.size) hi)).alloc _).drewN n
  · exact (((hb.other (by show p ≠ Y.v; omega) _).other (by show p ≠ Y.v; omega) _).alloc _).drewN n
  · exact (newBlk _ _ o.cells _ (by simp)).drewN n

theorem begin_steal {D : Dq} {hs : Nat → Option DOp} (pop : Bool) (h : VX w0 w Y kind room D D hs hs pushed full handed fv hv) (hi : i < 4) (h0 : 0 < i) :
    Calls Try.prog 26 #[.pointer (some ⟨Y.v, 0, none⟩), .int .i64 i, .bool pop] w (Begun w0 Y kind room i D hs (DOp.new 2 0) pushed full handed fv hv) := by
  obtain ⟨c0, c1, c2, c3, c4, c13, c14, c15⟩ := h.cells
  have HK := Lib.hid h.hk
  have HC : Hid (∀ v : World, Calls Try.prog 21 #[.agg #[.int .i64 kind, .int .i64 3, .int .i64 room]] v (NewD ((DOp.new 2 0).prog kind 3 room) v)) := Lib.hid (fun v => dsteal_any (kind := kind) (base := 3) (room := room) v HK.out)
  have H := Lib.hid h
  clear h
  go_enter Try.func26, Try.ntmps26
  go_wp2_with fail
  refine (HC.out _).mono ?_
  rintro e w2 ⟨p, rfl, hb, hs, ho⟩
  have h2 := H.out.only0 ho
  have cO := h2.cellO hi
  have cW := h2.cellW hi
  have fO := h2.top.free (5 + i * 2)
  have fW := h2.top.free (5 + i * 2 + 1)
  have vl := h2.top.lt
  have HB := Lib.hid (begin_fin (n := 0) H.out hi hb hs ho); clear h2 hb ho
  go_wp2_with fail
  go_end0
  exact HB.out

theorem begin_pop {D : Dq} {hs : Nat → Option DOp} (h : VX w0 w Y kind room D D hs hs pushed full handed fv hv) :
    Calls Try.prog 26 #[.pointer (some ⟨Y.v, 0, none⟩), .int .i64 0, .bool true] w (Begun w0 Y kind room 0 D hs (DOp.new 1 0) pushed full handed fv hv) := by
  obtain ⟨c0, c1, c2, c3, c4, c13, c14, c15⟩ := h.cells
  have HK := Lib.hid h.hk
  have HC : Hid (∀ v : World, Calls Try.prog 20 #[.agg #[.int .i64 kind, .int .i64 3, .int .i64 room]] v (NewD ((DOp.new 1 0).prog kind 3 room) v)) := Lib.hid (fun v => dpop_any (kind := kind) (base := 3) (room := room) v HK.out)
  have H := Lib.hid h
  clear h
  go_enter Try.func26, Try.ntmps26
  go_wp2_with fail
  refine (HC.out _).mono ?_
  rintro e w2 ⟨p, rfl, hb, hs, ho⟩
  have h2 := H.out.only0 ho
  have cO := h2.cellO (i := 0) (by omega)
  have cW := h2.cellW (i := 0) (by omega)
  have fO := h2.top.free 5
  have fW := h2.top.free 6
  have vl := h2.top.lt
  simp only [Nat.zero_mul, Nat.add_zero, Nat.reduceAdd] at cO cW
  have HB := Lib.hid (begin_fin (n := 0) (i := 0) H.out (by omega) hb hs ho); clear h2 hb ho
  go_wp2_with fail
  go_end0
  exact HB.out

/-- .. where the document's operation was made first. -/
theorem begin_fin2 {D : Dq} {hs : Nat → Option DOp} {w2 : World} {o : DOp} {n q : Nat} (hq : q = w.heap.size) (h : VX w0 w Y kind room D D hs hs pushed full handed fv hv) (hi : i < 4) (hb : Blk w2 p ((o.prog kind 3 room).cells p) 76) (ho : Only [] (w.alloc (.cells o.cells.toArray 70)).drew w2) (np : (w.alloc (.cells o.cells.toArray 70)).drew.heap.size ≤ p) :
    Begun w0 Y kind room i D hs o pushed full handed fv hv (.returned (.tuple #[])) (((w2.setCell ⟨Y.v, 5 + i * 2, none⟩ (.pointer (some ⟨p, 0, none⟩))).setCell ⟨Y.v, 5 + i * 2 + 1, none⟩ (.pointer (some ⟨q, 0, none⟩))).drewN n) := by
  subst hq
  have ho2 : Only [] w w2 := ((Only.refl [] _).alloc _).drew.trans ho
  have h2 := h.only0 ho2
  have hv := h.top.lt
  have hs2 := ho2.size
  have np : w.heap.size + 1 ≤ p := by simpa using np
  have bq0 : Blk (w.alloc (.cells o.cells.toArray 70)).drew w.heap.size o.cells 70 := (Blk.new _ _ _).drew
  have bq := bq0.only ho (by simp)
  refine ⟨rfl, _, VX.begin (p := p) (q := w.heap.size) h hi o ?_ ?_ ?_ ?_ (by omega) (Nat.le_refl _) (by omega), rfl⟩
  · exact (((ho2.mono (by simp)).setCell (by simp) _).setCell (by simp) _).drewN n
  · exact ((h2.top.setAs (5 + i * 2) (pt (some p)) (WC_setO (some p) hi)).setAs (5 + i * 2 + 1) (pt (some w.heap.size)) (WC_setW (some w.heap.size) hi)).drewN n
  · exact ((hb.other (by show p ≠ Y.v; omega) _).other (by show p ≠ Y.v; omega) _).drewN n
  · exact ((bq.other (by show w.heap.size ≠ Y.v; omega) _).other (by show w.heap.size ≠ Y.v; omega) _).drewN n
end

end Go.Proofs.Ytlogmfpnjpamgaa
