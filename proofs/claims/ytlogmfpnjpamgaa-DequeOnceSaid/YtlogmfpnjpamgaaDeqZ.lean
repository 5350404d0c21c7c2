/- Layer 9: the law's own functions: a move is the document's. -/
import Derived.Test.YtlogmfpnjpamgaaDeqX
import Derived.Test.YtlogmfpnjpamgaaDeqY
open Go Go.RowKit
namespace Go.Proofs.Ytlogmfpnjpamgaa

/-- A world that reads as A. -/
def VA (w0 w : World) (Y : Lay9) (kind room : Nat) (A : AW) (fv hv : Value) : Prop := VX w0 w Y kind room A.D A.D A.h A.h A.pushed A.full A.handed fv hv
def Moved (w0 : World) (v kind room : Nat) (A : AW) (e : Ending) (w' : World) : Prop :=
  e = .returned (.bool true) ∧ ∃ Y' fv' hv', VA w0 w' Y' kind room A fv' hv' ∧ Y'.v = v

section
variable {w0 w w1 : World} {Y : Lay9} {kind room i p q : Nat} {Dm Dd : Dq} {po dh : Nat → Option DOp} {pushed : Nat} {full handed : List Int} {fv hv : Value}

theorem VX.congr {po' dh' : Nat → Option DOp} (h : VX w0 w Y kind room Dm Dd po dh pushed full handed fv hv) (h1 : ∀ i, po i = po' i) (h2 : ∀ i, dh i = dh' i) : VX w0 w Y kind room Dm Dd po' dh' pushed full handed fv hv := by
  obtain rfl : po = po' := funext h1
  obtain rfl : dh = dh' := funext h2
  exact h

theorem upd_id {α : Type} {f : Nat → α} {i : Nat} {x : α} (h : f i = x) (j : Nat) : upd f i x j = f j := by
  by_cases e : j = i
  · rw [e, upd_self, h]
  · exact upd_ne _ _ e

theorem upd_upd {α : Type} (f : Nat → α) (i : Nat) (x y : α) (j : Nat) : upd (upd f i x) i y j = upd f i y j := by
  unfold upd; split <;> rfl

/-- The facts of one's hand. -/
theorem VX.hcells (h : VX w0 w Y kind room Dm Dd po dh pushed full handed fv hv) (hi : i < 4) (ep : Y.hpo i = some p) (eq : Y.hpw i = some q) :
    w.cell? ⟨Y.v, 0, none⟩ = some (.pointer (some ⟨Y.m, 0, none⟩)) ∧ w.cell? ⟨Y.v, 4, none⟩ = some (.pointer (some ⟨Y.r, 0, none⟩)) ∧ w.cell? ⟨Y.v, 5 + i * 2, none⟩ = some (.pointer (some ⟨p, 0, none⟩)) ∧ w.cell? ⟨Y.v, 5 + i * 2 + 1, none⟩ = some (.pointer (some ⟨q, 0, none⟩)) ∧
    w.cell? ⟨Y.v, 14, none⟩ = some fv ∧ w.cell? ⟨Y.v, 15, none⟩ = some hv ∧ w.frozen? ⟨Y.v, 5 + i * 2, none⟩ = false ∧ w.frozen? ⟨Y.v, 5 + i * 2 + 1, none⟩ = false ∧ w.frozen? ⟨Y.v, 14, none⟩ = false ∧ w.frozen? ⟨Y.v, 15, none⟩ = false ∧ Y.v < w.heap.size := by
  have a := h.cellO hi; rw [ep] at a
  have b := h.cellW hi; rw [eq] at b
  exact ⟨h.top.cell 0, h.top.cell 4, a, b, h.top.cell 14, h.top.cell 15, h.top.free _, h.top.free _, h.top.free 14, h.top.free 15, h.top.lt⟩

/-- What one's hand holds. -/
structure InHand (w0 w : World) (Y : Lay9) (kind room i p q : Nat) (o d : DOp) : Prop where
  ep : Y.hpo i = some p
  eq : Y.hpw i = some q
  bp : Blk w p ((o.prog kind 3 room).cells p) 76
  bq : Blk w q d.cells 70
  tp : Y.tag p = 10 + 2 * i
  tq : Y.tag q = 11 + 2 * i
  gp : w0.heap.size ≤ p
  gq : w0.heap.size ≤ q

theorem VX.inHand (h : VX w0 w Y kind room Dm Dd po dh pushed full handed fv hv) (hi : i < 4) {o : DOp} (ho : po i = some o) : ∃ p q d, dh i = some d ∧ InHand w0 w Y kind room i p q o d := by
  obtain ⟨p, q, d, e1, e2, e3, r1, r2, r3, r4, r5, r6⟩ := h.hand hi ho
  exact ⟨p, q, d, e3, e1, e2, r1, r2, r3, r4, r5, r6⟩
/-- .. it is the same in another world of the same place. -/
theorem VX.inHand2 (h : VX w0 w Y kind room Dm Dd po dh pushed full handed fv hv) (hi : i < 4) {o d : DOp} (ho : po i = some o) (hd : dh i = some d) (ep : Y.hpo i = some p) (eq : Y.hpw i = some q) : InHand w0 w Y kind room i p q o d := by
  obtain ⟨p', q', d', e1, r⟩ := h.inHand hi ho
  rw [hd] at e1; injection e1 with e1; subst e1
  have a := r.ep; rw [ep] at a; injection a with a; subst a
  have b := r.eq; rw [eq] at b; injection b with b; subst b
  exact r

theorem VX.moveP (h : VX w0 w Y kind room Dm Dd po dh pushed full handed fv hv) (hi : i < 4) {o d : DOp} {N : Nat} (ho : po i = some o) (hh : InHand w0 w Y kind room i p q o d) (hD : DqOk kind room N Dm) (hok : o.Ok kind room N) (hN : N ≤ 1000000) :
    Calls Try.prog 22 #[.pointer (some ⟨p, 0, none⟩), .pointer (some ⟨Y.m, 0, none⟩)] w fun e w1 => e = .returned (.bool (o.step kind room Dm).1.ended) ∧ VX w0 w1 Y kind room (o.step kind room Dm).2 Dd (upd po i (some (o.step kind room Dm).1)) dh pushed full handed fv hv := by
  refine (dmove_any o (h.hw hh.bp hh.tp) h.hk hD hok hN).mono ?_
  rintro e w1 ⟨rfl, hw⟩
  exact ⟨rfl, h.prog hi ho hh.ep hh.tp hh.gp hw⟩
theorem VX.moveD (h : VX w0 w Y kind room Dm Dd po dh pushed full handed fv hv) (hi : i < 4) {o d : DOp} {N : Nat} (hd : dh i = some d) (hh : InHand w0 w Y kind room i p q o d) (hr1 : 1 ≤ room) (hr : room ≤ 1000) (hD : DqOk kind room N Dd) (hok : d.Ok kind room N) (hN : N ≤ 1000000) :
    Calls Try.prog 27 #[.pointer (some ⟨Y.r, 0, none⟩), .pointer (some ⟨q, 0, none⟩)] w fun e w1 => e = .returned (.tuple #[]) ∧ VX w0 w1 Y kind room Dm (d.step kind room Dd).2 po (upd dh i (some (d.step kind room Dd).1)) pushed full handed fv hv := by
  refine (doc_any d (h.rw hh.bq hh.tq) h.hk hr1 hr hD hok hN).mono ?_
  rintro e w1 ⟨rfl, hw⟩
  exact ⟨rfl, h.doc hi hd hh.eq hh.tq hh.gq hw⟩
theorem VX.endP (h : VX w0 w Y kind room Dm Dd po dh pushed full handed fv hv) (hi : i < 4) {o d : DOp} (ho : po i = some o) (hh : InHand w0 w Y kind room i p q o d) :
    Calls Try.prog 23 #[.pointer (some ⟨p, 0, none⟩)] w fun e w1 => e = .returned o.tells ∧ VX w0 w1 Y kind room Dm Dd po dh pushed full handed fv hv := by
  refine (dend_op (h.hw hh.bp hh.tp)).mono ?_
  rintro e w1 ⟨rfl, hw⟩
  exact ⟨rfl, (h.prog hi ho hh.ep hh.tp hh.gp hw).congr (upd_id ho) (fun j => rfl)⟩
theorem VX.movedP (h : VX w0 w Y kind room Dm Dd po dh pushed full handed fv hv) (hi : i < 4) {o d : DOp} (ho : po i = some o) (hh : InHand w0 w Y kind room i p q o d) (he : o.ended = true) :
    Calls Try.prog 22 #[.pointer (some ⟨p, 0, none⟩), .pointer (some ⟨Y.m, 0, none⟩)] w fun e w1 => e = .returned (.bool true) ∧ VX w0 w1 Y kind room Dm Dd po dh pushed full handed fv hv := by
  refine (dmove_ended (h.hw hh.bp hh.tp) he).mono ?_
  rintro e w1 ⟨rfl, hw⟩
  exact ⟨rfl, (h.prog hi ho hh.ep hh.tp hh.gp hw).congr (upd_id ho) (fun j => rfl)⟩
end

/-- What stands behind the beginning, and what the move comes to; N: how many moves were done. -/
structure Ahead (w0 w : World) (Y : Lay9) (kind room i N p q : Nat) (A : AW) (o : DOp) (fv hv : Value) : Prop where
  va : VA w0 w Y kind room A fv hv
  ho : A.h i = some o
  hh : InHand w0 w Y kind room i p q o o
  dq : DqOk kind room N A.D
  ok : o.Ok kind room N

theorem info64 : (Try.prog.info? 2).map (fun i => (i.zero, i.size, i.bytes)) = some (some (.int .i64 0), 1, 8) := by kernel_rfl

theorem own_form {w : World} {base : Nat} {e : TypeId} {size : Nat} {v : Value} {n : Nat} {xs : List Value} (h : w.ownsRow base e size v n xs) : ∃ a cap, v = .slice a n cap := by
  obtain ⟨_, ⟨hv, hn⟩ | ⟨g, cap, cur, hv, _⟩⟩ := h
  · exact ⟨none, 0, by rw [hv, hn]⟩
  · exact ⟨_, cap, hv⟩

theorem one_cell {w : World} (a : Addr) (v : Value) (h : w.cell? (a.add 0) = some v) : ∀ j u, [v][j]? = some u → w.cell? (a.add j) = some u := by
  intro j u hj
  match j, hj with
  | 0, hj => simp at hj; subst hj; exact h

section
variable {w0 w w6 : World} {Y : Lay9} {kind room i : Nat} {D : Dq} {po : Nat → Option DOp} {pushed : Nat} {full handed : List Int} {fv hv fv' hv' : Value} {x : Int}

theorem none_fin (h : VX w0 w Y kind room D D po po pushed full handed fv hv) (hi : i < 4) (n : Nat) :
    ∃ Y', VX w0 (((w.setCell ⟨Y.v, 5 + i * 2, none⟩ (.pointer none)).setCell ⟨Y.v, 5 + i * 2 + 1, none⟩ (.pointer none)).drewN n) Y' kind room D D (upd po i none) (upd po i none) pushed full handed fv hv ∧ Y'.v = Y.v :=
  ⟨_, h.clear hi ((((Only.refl _ _).setCell (by simp) _).setCell (by simp) _).drewN n) (((h.top.setAs (5 + i * 2) (pt none) (WC_setO none hi)).setAs (5 + i * 2 + 1) (pt none) (WC_setW none hi)).drewN n), rfl⟩

theorem grown_top (h : VX w0 w Y kind room D D po po pushed full handed fv hv) {r : Option Nat} (hg : w.grownBy w6 r) (hr : ∀ k, r = some k → Y.tag k ≠ 0) : Blk w6 Y.v (WC Y.m Y.r kind room Y.hpo Y.hpw pushed fv hv) 50 :=
  (hg.block Y.v h.top.lt (fun e => hr Y.v e.symm h.tags.1)).trans h.top

theorem full_fin (h : VX w0 w Y kind room D D po po pushed full handed fv hv) (hi : i < 4) (hg : w.grownBy w6 fv.ownBlock) (own' : w6.ownsRow w0.heap.size 2 1 fv' (full.length + 1) (full.map (Value.int .i64) ++ [.int .i64 x]))
    (hb : ∀ k, fv'.ownBlock = some k → fv.ownBlock = some k ∨ w.heap.size ≤ k) (n : Nat) :
    ∃ Y', VX w0 ((((w6.setCell ⟨Y.v, 14, none⟩ fv').setCell ⟨Y.v, 5 + i * 2, none⟩ (.pointer none)).setCell ⟨Y.v, 5 + i * 2 + 1, none⟩ (.pointer none)).drewN n) Y' kind room D D (upd po i none) (upd po i none) pushed (full ++ [x]) handed fv' hv ∧ Y'.v = Y.v := by
  have ht := grown_top h hg (fun k hk => by have := h.rowf.2 k hk; omega)
  have h1 := h.rowF hg own' hb ((Only.refl [Y.v] _).setCell (by simp) fv') (ht.setAs 14 fv' rfl)
  obtain ⟨Y', h2, e⟩ := none_fin h1 hi n
  exact ⟨Y', h2, e⟩

theorem hand_fin (h : VX w0 w Y kind room D D po po pushed full handed fv hv) (hi : i < 4) (hg : w.grownBy w6 hv.ownBlock) (own' : w6.ownsRow w0.heap.size 2 1 hv' (handed.length + 1) (handed.map (Value.int .i64) ++ [.int .i64 x]))
    (hb : ∀ k, hv'.ownBlock = some k → hv.ownBlock = some k ∨ w.heap.size ≤ k) (n : Nat) :
    ∃ Y', VX w0 ((((w6.setCell ⟨Y.v, 15, none⟩ hv').setCell ⟨Y.v, 5 + i * 2, none⟩ (.pointer none)).setCell ⟨Y.v, 5 + i * 2 + 1, none⟩ (.pointer none)).drewN n) Y' kind room D D (upd po i none) (upd po i none) pushed full (handed ++ [x]) fv hv' ∧ Y'.v = Y.v := by
  have ht := grown_top h hg (fun k hk => by have := h.rowh.2 k hk; omega)
  have h1 := h.rowH hg own' hb ((Only.refl [Y.v] _).setCell (by simp) hv') (ht.setAs 15 hv' rfl)
  obtain ⟨Y', h2, e⟩ := none_fin h1 hi n
  exact ⟨Y', h2, e⟩
end

theorem fin_go {A : AW} {i : Nat} {o' : DOp} {D' : Dq} (he : o'.ended = false) : A.fin i o' D' = ⟨D', upd A.h i (some o'), A.pushed, A.full, A.handed⟩ := by
  simp [AW.fin, he]; rfl
theorem fin_full {A : AW} {i : Nat} {o' : DOp} {D' : Dq} (he : o'.ended = true) (hw : o'.why = 8) : A.fin i o' D' = ⟨D', upd A.h i none, A.pushed, A.full ++ [o'.x], A.handed⟩ := by
  simp [AW.fin, he, hw]; rfl
theorem fin_hand {A : AW} {i : Nat} {o' : DOp} {D' : Dq} (he : o'.ended = true) (hw : o'.why = 0) (h0 : 0 < o'.what) : A.fin i o' D' = ⟨D', upd A.h i none, A.pushed, A.full, A.handed ++ [o'.result]⟩ := by
  simp [AW.fin, he, hw, h0]; rfl
theorem fin_none {A : AW} {i : Nat} {o' : DOp} {D' : Dq} (he : o'.ended = true) (hw : o'.why ≠ 8) (h0 : o'.why = 0 → o'.what = 0) : A.fin i o' D' = ⟨D', upd A.h i none, A.pushed, A.full, A.handed⟩ := by
  simp [AW.fin, he, hw]
  exact ⟨rfl, h0⟩

set_option maxRecDepth 100000 in
set_option maxHeartbeats 4000000 in
theorem move_some {w0 w : World} {Y : Lay9} {kind room i N p q : Nat} {A : AW} {o : DOp} {fv hv : Value} (x : Nat) (pop : Bool) (hx : x ≤ 255) (hxi : x % 4 = i) (h : Ahead w0 w Y kind room i N p q A o fv hv) (hr1 : 1 ≤ room) (hr : room ≤ 1000) (hN : N ≤ 100000) (hl : A.full.length ≤ 100000 ∧ A.handed.length ≤ 100000) :
    Calls Try.prog 15 #[.pointer (some ⟨Y.v, 0, none⟩), .agg #[.int .u8 x, .bool pop]] w (Moved w0 Y.v kind room (A.stp kind room i o)) := by
  have hi : i < 4 := by omega
  have hxe : (x : Int) % 4 = i := by omega
  have AH := Lib.hid h; clear h
  obtain ⟨c0, c4, cO, cW, c14, c15, fO, fW, f14, f15, vl⟩ := AH.out.va.hcells hi AH.out.hh.ep AH.out.hh.eq
  have hxw := hxi; clear hxi
  -- the program's move, the document's
  obtain ⟨o', ho'⟩ : ∃ o', o' = (o.step kind room A.D).1 := ⟨_, rfl⟩
  obtain ⟨D', hD'⟩ : ∃ D', D' = (o.step kind room A.D).2 := ⟨_, rfl⟩
  have C := Lib.hid (fun (y : World) (hy : VX w0 y Y kind room A.D A.D A.h A.h A.pushed A.full A.handed fv hv) => hy.moveP hi AH.out.ho (hy.inHand2 hi AH.out.ho AH.out.ho AH.out.hh.ep AH.out.hh.eq) AH.out.dq AH.out.ok (by omega))
  have CD := Lib.hid (fun (y : World) (hy : VX w0 y Y kind room D' A.D (upd A.h i (some o')) A.h A.pushed A.full A.handed fv hv) => hy.moveD hi AH.out.ho (hy.inHand2 hi (upd_self _ _ _) AH.out.ho AH.out.hh.ep AH.out.hh.eq) hr1 hr AH.out.dq AH.out.ok (by omega))
  rw [← ho', ← hD'] at C CD
  have HE : Hid (A.stp kind room i o = A.fin i o' D') := Lib.hid (by rw [ho', hD']; rfl)
  clear ho' hD'
  by_cases he : o'.ended = true
  · rw [he] at C
    have HEN := Lib.hid he; clear he
    go_enter Try.func15, Try.ntmps15
    go_wp2_with fail
    go_region_held3 (fun w' => w'.cell? ⟨Y.v, 0, none⟩ = some (.pointer (some ⟨Y.m, 0, none⟩)) ∧ w'.cell? ⟨Y.v, 5 + i * 2, none⟩ = some (.pointer (some ⟨p, 0, none⟩))) (go_keep)
      (first
        | (go_at_call 22; refine (C.out _ (AH.out.va.only0 ((Only.refl _ _).alloc _).drew)).mono ?_; rintro e w2 ⟨rfl, h2⟩; obtain ⟨c0, c4, cO, cW, c14, c15, fO, fW, f14, f15, vl⟩ := h2.hcells hi AH.out.hh.ep AH.out.hh.eq; have H2 := Lib.hid h2; clear h2))
    go_wp2_with fail
    go_region_held3 (fun w' => w'.cell? ⟨Y.v, 4, none⟩ = some (.pointer (some ⟨Y.r, 0, none⟩)) ∧ w'.cell? ⟨Y.v, 5 + i * 2 + 1, none⟩ = some (.pointer (some ⟨q, 0, none⟩))) (go_keep)
      (first
        | (go_at_call 27; refine (CD.out _ (H2.out.only0 (Only.refl _ _).drew)).mono ?_; rintro e w3 ⟨rfl, h3'⟩; obtain ⟨c0, c4, cO, cW, c14, c15, fO, fW, f14, f15, vl⟩ := h3'.hcells hi AH.out.hh.ep AH.out.hh.eq; have H3' := Lib.hid h3'; clear h3'))
    have h3 := H3'.out; clear H3'
    have bq := h3.inHand2 hi (upd_self _ _ _) (upd_self _ _ _) AH.out.hh.ep AH.out.hh.eq
    have q5 := bq.bq.cell 5; have q6 := bq.bq.cell 6; have q7 := bq.bq.cell 7; have q0 := bq.bq.cell 0; have q2 := bq.bq.cell 2
    simp [DOp.cells] at q5 q6 q7 q0 q2
    rw [HEN.out] at q5
    have H3 := Lib.hid h3; have BQ := Lib.hid bq; clear h3 bq C CD
    have CE := Lib.hid (H3.out.endP hi (upd_self _ _ _) BQ.out)
    rw [show o'.tells = .tuple #[.int .i64 o'.result, .int .i64 o'.why] by simp [DOp.tells, HEN.out]] at CE
    go_wp2_with fail
    refine CE.out.mono ?_
    rintro e w4 ⟨rfl, h4⟩
    clear CE q5 q6 q7 q0 q2 c0 c4 cO cW c14 c15 fO fW f14 f15 vl
    obtain ⟨c0, c4, cO, cW, c14, c15, fO, fW, f14, f15, vl⟩ := h4.hcells hi AH.out.hh.ep AH.out.hh.eq
    have bq := h4.inHand2 hi (upd_self _ _ _) (upd_self _ _ _) AH.out.hh.ep AH.out.hh.eq
    have q5 := bq.bq.cell 5; have q6 := bq.bq.cell 6; have q7 := bq.bq.cell 7; have q0 := bq.bq.cell 0; have q2 := bq.bq.cell 2
    simp [DOp.cells] at q5 q6 q7 q0 q2
    have H4 := Lib.hid h4; clear h4 bq
    have CM := Lib.hid (fun (y : World) (hy : VX w0 y Y kind room D' D' (upd A.h i (some o')) (upd A.h i (some o')) A.pushed A.full A.handed fv hv) => hy.movedP hi (upd_self _ _ _) (hy.inHand2 hi (upd_self _ _ _) (upd_self _ _ _) AH.out.hh.ep AH.out.hh.eq) HEN.out)
    go_wp2_with fail
    go_region_held3 (fun w' => w'.cell? ⟨Y.v, 0, none⟩ = some (.pointer (some ⟨Y.m, 0, none⟩)) ∧ w'.cell? ⟨Y.v, 5 + i * 2, none⟩ = some (.pointer (some ⟨p, 0, none⟩)) ∧ w'.cell? ⟨Y.v, 5 + i * 2 + 1, none⟩ = some (.pointer (some ⟨q, 0, none⟩)) ∧ w'.cell? ⟨q, 6, none⟩ = some (.int .i64 o'.result) ∧ w'.cell? ⟨q, 7, none⟩ = some (.int .i64 o'.why)) (go_keep)
      (first
        | (go_at_call 22; refine (CM.out _ (H4.out.only0 (Only.refl _ _).drew)).mono ?_; rintro e w5 ⟨rfl, h5⟩; obtain ⟨c0, c4, cO, cW, c14, c15, fO, fW, f14, f15, vl⟩ := h5.hcells hi AH.out.hh.ep AH.out.hh.eq; have bq := h5.inHand2 hi (upd_self _ _ _) (upd_self _ _ _) AH.out.hh.ep AH.out.hh.eq; have q6 := bq.bq.cell 6; have q7 := bq.bq.cell 7; have q0 := bq.bq.cell 0; have q2 := bq.bq.cell 2; simp [DOp.cells] at q6 q7 q0 q2; have H5 := Lib.hid h5; clear h5 bq))
    clear CM
    by_cases h8 : o'.why = 8
    · have hb8 : (o'.why == 8) = true := by simpa using h8
      have hb0 : (o'.why == 0) = false := by simp [h8]
      have H8 := Lib.hid h8; clear h8
      obtain ⟨i0, hi0, hz0, hz1, hz2⟩ := info_parts info64
      have HB5 := Lib.hid H5.out.bel.size
      go_wp2_with fail
      go_region_law ((refine step_append_ours _ rfl (.tmp 116) (.tmp 124) 48 rfl w0.heap.size 2 i0 (.int .i64 0) 1 8 Try.underlying48 hi0 hz0 hz1 hz2 rfl (by decide) fv A.full.length (A.full.map (Value.int .i64)) rfl ?own ⟨w5.heap.size, 0, none⟩ 1 1 [.int .i64 o'.x] rfl rfl ?c1 ?c2 ?c3 ?c4 ?c5 ?_; (case own => exact OwnI.only H5.out.rowf.1 (by first | exact (Only.refl [] _).drew.alloc _ | exact ((Only.refl [] _).alloc _).drew) (by simp)); (case c1 => exact one_cell _ _ (by simp [Addr.add])); (case c2 => (intro u hu; simp at hu; subst hu; rfl)); (case c3 => (have := hl.1; unfold maxLen; omega)); (case c4 => (have := hl.1; omega)); (case c5 => (have := HB5.out; simp; omega)); intro fv' w6 own' hg hb; obtain ⟨a', cap', rfl⟩ := own_form own'; have ht6 := grown_top (H5.out.only0 (by first | exact (Only.refl [] _).drew.alloc _ | exact ((Only.refl [] _).alloc _).drew | exact (Only.refl [] _).alloc _)) hg (fun k hk => by have := H5.out.rowf.2 k hk; omega); have d14 := ht6.cell 14; have g14 := ht6.free 14; have dO := (ht6.cell (5 + i * 2)).trans (WC_getO hi); have dW := (ht6.cell (5 + i * 2 + 1)).trans (WC_getW hi); have gO := ht6.free (5 + i * 2); have gW := ht6.free (5 + i * 2 + 1); have vl6 := ht6.lt; simp [WC] at d14; have HT6 := Lib.hid ht6; have HG := Lib.hid hg; have HOWN := Lib.hid own'; have HBB := Lib.hid hb; clear ht6 hg own' hb))
      all_goals go_wp2_with fail
      all_goals go_ret
      all_goals refine ⟨rfl, ?_⟩
      all_goals obtain ⟨Y', hY, e⟩ := full_fin (H5.out.only0 (by first | exact (Only.refl [] _).drew.alloc _ | exact ((Only.refl [] _).alloc _).drew | exact (Only.refl [] _).alloc _)) hi HG.out HOWN.out HBB.out 0
      all_goals exact ⟨Y', _, _, by rw [HE.out, fin_full HEN.out H8.out]; exact hY.congr (upd_upd _ _ _ _) (upd_upd _ _ _ _), e⟩
    · have hb8 : (o'.why == 8) = false := by simpa using h8
      have H8 := Lib.hid h8; clear h8
      by_cases h00 : o'.why = 0 ∧ 0 < o'.what
      · have hb0 : (o'.why == 0) = true := by simpa using h00.1
        have hbw : (0 : Int) < (o'.what : Int) := by omega
        have H00 := Lib.hid h00; clear h00
        obtain ⟨i0, hi0, hz0, hz1, hz2⟩ := info_parts info64
        have HB5 := Lib.hid H5.out.bel.size
        go_wp2_with ((refine wpList_append_ours _ rfl (.tmp 144) (.tmp 146) 48 rfl w0.heap.size 2 i0 (.int .i64 0) 1 8 Try.underlying48 hi0 hz0 hz1 hz2 rfl (by decide) hv A.handed.length (A.handed.map (Value.int .i64)) rfl ?own2 ⟨w5.heap.size, 0, none⟩ 1 1 [.int .i64 o'.result] rfl rfl ?d1 ?d2 ?d3 ?d4 ?d5 ?_; (case own2 => exact OwnI.only H5.out.rowh.1 (by first | exact (Only.refl [] _).drew.alloc _ | exact ((Only.refl [] _).alloc _).drew | exact (Only.refl [] _).alloc _) (by simp)); (case d1 => exact one_cell _ _ (by simp [Addr.add])); (case d2 => (intro u hu; simp at hu; subst hu; rfl)); (case d3 => (have := hl.2; unfold maxLen; omega)); (case d4 => (have := hl.2; omega)); (case d5 => (have := HB5.out; simp; omega)); intro hv' w6 own' hg hb; obtain ⟨a', cap', rfl⟩ := own_form own'; have ht6 := grown_top (H5.out.only0 (by first | exact (Only.refl [] _).drew.alloc _ | exact ((Only.refl [] _).alloc _).drew | exact (Only.refl [] _).alloc _)) hg (fun k hk => by have := H5.out.rowh.2 k hk; omega); have d14 := ht6.cell 15; have g14 := ht6.free 15; have dO := (ht6.cell (5 + i * 2)).trans (WC_getO hi); have dW := (ht6.cell (5 + i * 2 + 1)).trans (WC_getW hi); have gO := ht6.free (5 + i * 2); have gW := ht6.free (5 + i * 2 + 1); have vl6 := ht6.lt; simp [WC] at d14; have HG := Lib.hid hg; have HOWN := Lib.hid own'; have HBB := Lib.hid hb; clear ht6 hg own' hb))
        go_ret
        refine ⟨rfl, ?_⟩
        obtain ⟨Y', hY, e⟩ := hand_fin (H5.out.only0 (by first | exact (Only.refl [] _).drew.alloc _ | exact ((Only.refl [] _).alloc _).drew | exact (Only.refl [] _).alloc _)) hi HG.out HOWN.out HBB.out 0
        exact ⟨Y', _, _, by rw [HE.out, fin_hand HEN.out H00.out.1 H00.out.2]; exact hY.congr (upd_upd _ _ _ _) (upd_upd _ _ _ _), e⟩
      · have HN : Hid (o'.why ≠ 8 ∧ (o'.why = 0 → o'.what = 0)) := Lib.hid ⟨H8.out, fun h => by omega⟩
        by_cases h01 : o'.why = 0
        · have hb0 : (o'.why == 0) = true := by simpa using h01
          have hbw2 : decide (0 < o'.what) = false := by simp; omega
          clear h00 h01
          go_wp2_with fail
          go_ret
          refine ⟨rfl, ?_⟩
          obtain ⟨Y', hY, e⟩ := none_fin H5.out hi 0
          exact ⟨Y', _, _, by rw [HE.out, fin_none HEN.out HN.out.1 HN.out.2]; exact hY.congr (upd_upd _ _ _ _) (upd_upd _ _ _ _), e⟩
        · have hb0 : (o'.why == 0) = false := by simpa using h01
          clear h00 h01
          go_wp2_with fail
          go_ret
          refine ⟨rfl, ?_⟩
          obtain ⟨Y', hY, e⟩ := none_fin H5.out hi 0
          exact ⟨Y', _, _, by rw [HE.out, fin_none HEN.out HN.out.1 HN.out.2]; exact hY.congr (upd_upd _ _ _ _) (upd_upd _ _ _ _), e⟩
  · have he := eq_false_of_ne_true he
    rw [he] at C
    have HEN := Lib.hid he; clear he
    go_enter Try.func15, Try.ntmps15
    go_wp2_with fail
    go_region_held3 (fun w' => w'.cell? ⟨Y.v, 0, none⟩ = some (.pointer (some ⟨Y.m, 0, none⟩)) ∧ w'.cell? ⟨Y.v, 5 + i * 2, none⟩ = some (.pointer (some ⟨p, 0, none⟩))) (go_keep)
      (first
        | (go_at_call 22; refine (C.out _ (AH.out.va.only0 ((Only.refl _ _).alloc _).drew)).mono ?_; rintro e w2 ⟨rfl, h2⟩; obtain ⟨c0, c4, cO, cW, c14, c15, fO, fW, f14, f15, vl⟩ := h2.hcells hi AH.out.hh.ep AH.out.hh.eq; have H2 := Lib.hid h2; clear h2))
    go_wp2_with fail
    go_region_held3 (fun w' => w'.cell? ⟨Y.v, 4, none⟩ = some (.pointer (some ⟨Y.r, 0, none⟩)) ∧ w'.cell? ⟨Y.v, 5 + i * 2 + 1, none⟩ = some (.pointer (some ⟨q, 0, none⟩))) (go_keep)
      (first
        | (go_at_call 27; refine (CD.out _ (H2.out.only0 (Only.refl _ _).drew)).mono ?_; rintro e w3 ⟨rfl, h3'⟩; obtain ⟨c0, c4, cO, cW, c14, c15, fO, fW, f14, f15, vl⟩ := h3'.hcells hi AH.out.hh.ep AH.out.hh.eq; have H3' := Lib.hid h3'; clear h3'))
    have h3 := H3'.out; clear H3'
    have bq := h3.inHand2 hi (upd_self _ _ _) (upd_self _ _ _) AH.out.hh.ep AH.out.hh.eq
    have q5 := bq.bq.cell 5
    simp [DOp.cells] at q5
    rw [HEN.out] at q5
    have H3 := Lib.hid h3; clear h3 bq C CD
    go_wp2_with fail
    go_ret
    exact ⟨rfl, Y, fv, hv, by rw [HE.out, fin_go HEN.out]; exact H3.out, rfl⟩

end Go.Proofs.Ytlogmfpnjpamgaa
