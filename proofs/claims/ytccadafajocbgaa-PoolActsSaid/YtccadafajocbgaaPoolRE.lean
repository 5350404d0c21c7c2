/- Layer 10: the document's Drain, Home. -/
import Derived.Test.YtccadafajocbgaaPoolRD
open Go Go.RowKit
set_option linter.unusedSimpArgs false
namespace Go.Proofs.Ytccadafajocbgaa

section
variable {o : Bool} {w w1 w' wr : World} {B : Nat} {L : RLay} {s : Shp} {S S' : PS} {rows : Nat → List Int} {tk : List Bool}

theorem rdrain_out (h : DocS w B L s S) (v : Int) (ho : v < 0 ∨ S.W ≤ v) : Calls Try.prog 20 #[.pointer (some ⟨L.r, 0, none⟩), .int .i64 v] w fun e w' => e = .returned (.int .i64 0) ∧ w = w' := by
  have CR := Lib.hid (rworker_any h.lies v)
  rw [show decide (0 ≤ v ∧ v < s.W) = false from decide_eq_false (by have := h.W; omega)] at CR
  generalize L.r = r at CR ⊢
  clear h ho
  go_enter Try.func20, Try.ntmps20
  go_wp2_with fail
  refine CR.out.mono ?_
  rintro e w2 ⟨rfl, rfl⟩
  go_wp2_with fail
  go_ret
  exact ⟨rfl, rfl⟩

theorem RLies.gone (h : RLies o w B L s rows tk) {k g : Nat} (hk : k < 4 * s.W) (hg : (L.V k).ownBlock = some g) : ¬ (L.setV k (.slice none 0 0)).own s.W g := by
  rintro (e | e | e | e | ⟨j, hj, e⟩)
  · exact (h.rows k hk).rd.ne_type h.top (by decide) (by rw [hg, e]; rfl)
  · exact (h.rows k hk).rd.ne_type h.frees (by decide) (by rw [hg, e]; rfl)
  · exact (h.rows k hk).rd.ne_type h.fars (by decide) (by rw [hg, e]; rfl)
  · exact (h.rows k hk).rd.ne_own h.taken (by decide) g hg e
  · simp only [RLay.setV] at e
    by_cases hjk : j = k
    · rw [if_pos hjk] at e; simp [Value.ownBlock] at e
    · rw [if_neg hjk] at e; exact h.dis j k hj hk hjk g e hg

theorem DocS.setNil (h : DocS w B L s S) {v : Nat} (hv : v < s.W) : DocS (w.setCell ⟨L.q, v, none⟩ (.slice none 0 0)) B (L.setV (4 * v + 3) (.slice none 0 0)) s (S.setRow (4 * v + 3) []) :=
  h.setRow (h.lies.setFar hv (World.ownsRow_nil w _ _ _) (Turn.refl _ w) (fun g hg => by simp [Value.ownBlock] at hg))

/-- Those of l have been put home, up to the i-th. -/
def DRel (w1 : World) (B : Nat) (L1 : RLay) (s : Shp) (S0 : PS) (l : List Int) (r i : Nat) (wr : World) : Prop :=
  ∃ L', L'.r = r ∧ DocS wr B L' s (S0.homeAll (l.take i)) ∧ Turn (fun k => L1.own s.W k) w1 wr ∧ ∀ k, L'.own s.W k → L1.own s.W k ∨ w1.heap.size ≤ k

theorem DRel.step {L1 : RLay} {S0 : PS} {l : List Int} {r i : Nat} {x : Int} (h : DRel w1 B L1 s S0 l r i wr) (hR : s.Right) (hB : B ≤ w1.heap.size) (hx : l[i]? = some x) (hl : S0.there x) (hlen : (S0.row (S0.home x)).length + l.length ≤ 400000) :
    Calls Try.prog 42 #[.pointer (some ⟨r, 0, none⟩), .int .i64 x] wr fun e w' => e = .returned (.tuple #[]) ∧ DRel w1 B L1 s S0 l r (i + 1) w' := by
  obtain ⟨L', rfl, hd, ht, ho⟩ := h
  have hi : i < l.length := (List.getElem?_eq_some_iff.1 hx).1
  have e1 : (S0.homeAll (l.take i)).home x = S0.home x := by unfold PS.home; rw [PS.homeAll_blk]
  have hb := PS.homeAll_len (l.take i) S0 (S0.home x)
  have hti : (l.take i).length ≤ l.length := by simp; omega
  refine (rhome_any hd hR (Nat.le_trans hB ht.size) x ((PS.homeAll_there _ _ _).2 hl) (by rw [e1]; omega)).mono ?_
  rintro e w' ⟨rfl, L2, hr, hd2, ht2, ho2⟩
  rw [e1, ← PS.homeAll_snoc] at hd2
  have e2 : l.take i ++ [x] = l.take (i + 1) := by rw [List.take_add_one, hx]; rfl
  rw [e2] at hd2
  refine ⟨rfl, L2, hr, hd2, ht.trans ht2 (fun k hk => ?_), fun k hk => ?_⟩
  · exact ho k hk
  · rcases ho2 k hk with q | q
    · exact ho k q
    · exact .inr (Nat.le_trans ht.size q)

set_option maxRecDepth 100000 in
theorem rdrain_nil (h : DocS w B L s S) (v : Nat) (hv : v < s.W) (hr : S.row (4 * v + 3) = []) : Calls Try.prog 20 #[.pointer (some ⟨L.r, 0, none⟩), .int .i64 v] w (DPost w B L s (S.setRow (4 * v + 3) []) (.int .i64 0)) := by
  have CR := Lib.hid (rworker_any h.lies v)
  rw [show decide (0 ≤ (v : Int) ∧ (v : Int) < s.W) = true from decide_eq_true (by omega)] at CR
  obtain ⟨-, -, -, -, c8, -⟩ := h.lies.cellS
  obtain ⟨cV, fV⟩ := h.lies.cellQ hv
  obtain ⟨a, cap, hV⟩ : ∃ a cap, L.V (4 * v + 3) = .slice a 0 cap := by
    have := (h.lies.rows _ (show 4 * v + 3 < 4 * s.W by omega)).rd
    rw [hr] at this
    rcases this with ⟨e, _⟩ | ⟨g, off, cap, cs, e, _⟩
    · exact ⟨_, _, e⟩
    · exact ⟨_, _, e⟩
  rw [hV] at cV
  have hps : L.r ≠ L.q := h.lies.top.ne_type h.lies.fars (by decide)
  have FIN := Lib.hid (show DPost w B L s (S.setRow (4 * v + 3) []) (.int .i64 0) (.returned (.int .i64 0)) (w.setCell ⟨L.q, v, none⟩ (.slice none 0 0)) from
    ⟨rfl, L.setV (4 * v + 3) (.slice none 0 0), rfl, h.setNil hv, (Turn.refl _ w).setCell (.inl (.inr (.inr (.inl rfl)))) _, fun k hk => RLay.own_setV (n := w.heap.size) (fun g hg => by simp [Value.ownBlock] at hg) (by omega) hk⟩)
  have hW2 := (show s.W = s.W from rfl)
  generalize L.r = r at CR c8 hps ⊢
  generalize L.q = q at c8 cV fV hps FIN
  obtain ⟨W, hW⟩ : ∃ W, W = s.W := ⟨_, rfl⟩
  rw [← hW] at c8 hv
  clear h hr hV hW hW2
  have v0 : (0 : Int) ≤ (v : Int) := by omega
  have v1 : (v : Int) < (W : Int) := by omega
  have hlt4 := World.block_lt_of_cell? _ _ cV
  simp only [] at hlt4
  go_enter Try.func20, Try.ntmps20
  go_wp2_with fail
  refine CR.out.mono ?_
  rintro e w2 ⟨rfl, rfl⟩
  go_wp2_with fail
  obtain ⟨w3, hw3⟩ : ∃ w3, w3 = w.setCell ⟨q, v, none⟩ (.slice none 0 0) := ⟨_, rfl⟩
  rw [← hw3] at FIN ⊢
  clear hw3
  go_loopw [6] (fun t wr => t = .int .i64 0 ∧ w3 = wr) (fun _ _ => 0)
  case atStart => exact ⟨rfl, rfl⟩
  case round =>
    obtain ⟨rfl, rfl⟩ := hrel
    go_wp2_with fail
    go_ret
    exact FIN.out

set_option maxRecDepth 100000 in
set_option maxHeartbeats 2000000 in
theorem rdrain_some (h : DocS w B L s S) (hR : s.Right) (hok : S.Ok) (hBw : B ≤ w.heap.size) (v : Nat) (hv : v < s.W) (hr : S.row (4 * v + 3) ≠ []) : Calls Try.prog 20 #[.pointer (some ⟨L.r, 0, none⟩), .int .i64 v] w (DPost w B L s (S.drainS v) (.int .i64 (S.row (4 * v + 3)).length)) := by
  have CR := Lib.hid (rworker_any h.lies v)
  rw [show decide (0 ≤ (v : Int) ∧ (v : Int) < s.W) = true from decide_eq_true (by omega)] at CR
  obtain ⟨-, -, -, -, c8, -⟩ := h.lies.cellS
  obtain ⟨cV, fV⟩ := h.lies.cellQ hv
  have hkk : 4 * v + 3 < 4 * s.W := by omega
  have hrow := (h.lies.rows _ hkk).far (by omega)
  obtain ⟨l, hl⟩ : ∃ l, l = S.row (4 * v + 3) := ⟨_, rfl⟩
  have hlen : l.length ≤ 192000 := by rw [hl]; exact hok.short (by rw [h.W]; exact hkk)
  have hlp : 0 < l.length := by rw [hl]; exact List.length_pos_iff.2 hr
  rw [← hl] at hrow
  obtain ⟨g, cap, hV, -, hgl⟩ := hrow.form hlp
  have hgo : (L.V (4 * v + 3)).ownBlock = some g := by rw [hV]; rfl
  have hgone := h.lies.gone hkk hgo
  have hgq : g ≠ L.q := fun e => (h.lies.rows _ hkk).rd.ne_type h.lies.fars (by decide) (by rw [hgo, e])
  have hmem : ∀ x ∈ l, S.there x := fun x hx => (hok.mem _ (by rw [h.W]; exact hkk) x (by rw [← hl]; exact hx)).1
  have hps : L.r ≠ L.q := h.lies.top.ne_type h.lies.fars (by decide)
  have e0 : S.drainS v = (S.setRow (4 * v + 3) []).homeAll l := by
    unfold PS.drainS
    rw [← PS.homeAll_row _ _ _ _ (hok.home_far (by rw [h.W]; exact hv)), hl]
  have HT1 := Lib.hid (show Turn (fun k => L.own s.W k) w (w.setCell ⟨L.q, v, none⟩ (.slice none 0 0)) from (Turn.refl _ w).setCell (.inl (.inr (.inr (.inl rfl)))) _)
  have HREL0 := Lib.hid (show DRel (w.setCell ⟨L.q, v, none⟩ (.slice none 0 0)) B (L.setV (4 * v + 3) (.slice none 0 0)) s (S.setRow (4 * v + 3) []) l L.r 0 (w.setCell ⟨L.q, v, none⟩ (.slice none 0 0)) from
    ⟨L.setV (4 * v + 3) (.slice none 0 0), rfl, h.setNil hv, Turn.refl _ _, fun _ q => .inl q⟩)
  have HOW := Lib.hid (fun k (hk : (L.setV (4 * v + 3) (.slice none 0 0)).own s.W k) => RLay.own_setV (n := w.heap.size) (fun g hg => by simp [Value.ownBlock] at hg) hkk hk)
  have HCL := Lib.hid (fun (wr : World) (ht : Turn (fun k => (L.setV (4 * v + 3) (.slice none 0 0)).own s.W k) (w.setCell ⟨L.q, v, none⟩ (.slice none 0 0)) wr) (i : Nat) (x : Int) (hx : l[i]? = some x) => show wr.cell? ⟨g, i, none⟩ = some (.int .i64 x) from by
    have h1 : Turn (fun k => k = L.q) w (w.setCell ⟨L.q, v, none⟩ (.slice none 0 0)) := Turn.setCell (F := fun k => k = L.q) (p := ⟨L.q, v, none⟩) (Turn.refl _ w) (.inl rfl) _
    rw [ht.cell (a := ⟨g, i, none⟩) (h1.lt hgl) hgone, h1.cell (a := ⟨g, i, none⟩) hgl hgq]
    have hi : i < l.length := (List.getElem?_eq_some_iff.1 hx).1
    rw [hV] at hrow
    have := World.ownsRow.cellAt hrow i (by omega)
    rw [this, List.getElem?_map, hx]; rfl)
  have HST := Lib.hid (fun (wr : World) (i : Nat) (x : Int) (hrel : DRel (w.setCell ⟨L.q, v, none⟩ (.slice none 0 0)) B (L.setV (4 * v + 3) (.slice none 0 0)) s (S.setRow (4 * v + 3) []) l L.r i wr) (hx : l[i]? = some x) =>
    hrel.step hR (Nat.le_trans hBw HT1.out.size) hx (show (S.setRow (4 * v + 3) []).there x from hmem x (List.mem_of_getElem? hx)) (by
      have hpl := hok.place x (hmem x (List.mem_of_getElem? hx))
      have hk : S.home x < 4 * S.W := by unfold PS.home; omega
      have h1 := hok.short hk
      have h2 : (S.setRow (4 * v + 3) []).home x = S.home x := rfl
      rw [h2]
      show (if S.home x = 4 * v + 3 then [] else S.row (S.home x)).length + l.length ≤ 400000
      split
      · simp; omega
      · omega))
  rw [hV] at cV
  rw [e0, ← hl]
  have HFIN := Lib.hid (fun (wr : World) (hrel : DRel (w.setCell ⟨L.q, v, none⟩ (.slice none 0 0)) B (L.setV (4 * v + 3) (.slice none 0 0)) s (S.setRow (4 * v + 3) []) l L.r l.length wr) => show DPost w B L s ((S.setRow (4 * v + 3) []).homeAll l) (.int .i64 l.length) (.returned (.int .i64 l.length)) wr from by
    obtain ⟨L', h1, h2, h3, h4⟩ := hrel
    rw [List.take_length] at h2
    refine ⟨rfl, L', h1, h2, HT1.out.trans h3 (fun k hk => HOW.out k hk), fun k hk => ?_⟩
    rcases h4 k hk with q | q
    · exact HOW.out k q
    · exact .inr (Nat.le_trans HT1.out.size q))
  generalize (S.setRow (4 * v + 3) []).homeAll l = S9 at HFIN ⊢
  generalize L.setV (4 * v + 3) (.slice none 0 0) = L1 at HREL0 HCL HST HFIN
  generalize S.setRow (4 * v + 3) [] = S0 at HREL0 HST HFIN
  obtain ⟨r, hr0⟩ : ∃ r, r = L.r := ⟨_, rfl⟩
  rw [← hr0] at CR c8 hps HREL0 HST HFIN ⊢
  generalize L.q = q at c8 cV fV hps HT1 HREL0 HCL HST HFIN
  obtain ⟨W, hW⟩ : ∃ W, W = s.W := ⟨_, rfl⟩
  rw [← hW] at c8 hv
  obtain ⟨n, hn⟩ : ∃ n, n = l.length := ⟨_, rfl⟩
  rw [← hn] at cV hlen hlp HFIN ⊢
  have HN := Lib.hid hn
  clear h hr hl hV hW hrow hkk hgl hgo hgone hgq hmem e0 HT1 HOW hok hR hBw hr0 hn
  have v0 : (0 : Int) ≤ (v : Int) := by omega
  have v1 : (v : Int) < (W : Int) := by omega
  have hlt4 := World.block_lt_of_cell? _ _ cV
  simp only [] at hlt4
  go_enter Try.func20, Try.ntmps20
  go_wp2_with fail
  refine CR.out.mono ?_
  rintro e w2 ⟨rfl, rfl⟩
  go_wp2_with fail
  obtain ⟨w3, hw3⟩ : ∃ w3, w3 = w.setCell ⟨q, v, none⟩ (.slice none 0 0) := ⟨_, rfl⟩
  rw [← hw3] at HREL0 HCL HST HFIN ⊢
  clear hw3
  go_loopw [6] (fun t wr => ∃ i : Nat, i ≤ n ∧ t = .int .i64 i ∧ DRel w3 B L1 s S0 l r i wr) (fun t _ => n - (intOf t).toNat)
  case atStart => exact ⟨0, by omega, rfl, HREL0.out⟩
  case round =>
    obtain ⟨i, hi, rfl, hrel⟩ := hrel
    have HREL := Lib.hid hrel
    clear hrel HREL0
    by_cases hlt : i < n
    · obtain ⟨x, hx⟩ : ∃ x, l[i]? = some x := ⟨l[i]'(by rw [← HN.out]; exact hlt), List.getElem?_eq_getElem _⟩
      have HC := Lib.hid (HST.out wr i x HREL.out hx)
      obtain ⟨L', -, -, ht, -⟩ := HREL.out
      have cx := HCL.out wr ht i x hx
      clear ht hx
      go_wp2_with fail
      refine HC.out.mono ?_
      rintro e w4 ⟨rfl, hrel⟩
      have HREL2 := Lib.hid hrel
      clear hrel cx
      go_wp2_with fail
      go_roundw
      case rel => exact ⟨i + 1, by omega, by go_num, HREL2.out⟩
      case measure => simp [intOf]; omega
    · obtain rfl : i = n := by omega
      go_wp2_with fail
      go_ret
      exact HFIN.out _ HREL.out

theorem rdrain_any (h : DocS w B L s S) (hR : s.Right) (hok : S.Ok) (hBw : B ≤ w.heap.size) (v : Int) : Calls Try.prog 20 #[.pointer (some ⟨L.r, 0, none⟩), .int .i64 v] w (DPost w B L s (S.drain v).2 (.int .i64 (S.drain v).1)) := by
  have hW := h.W
  unfold PS.drain
  by_cases h1 : v < 0 ∨ S.W ≤ v
  · rw [if_pos h1]
    refine (rdrain_out h v h1).mono ?_
    rintro e w' ⟨rfl, rfl⟩
    exact h.same _
  · rw [if_neg h1]
    obtain ⟨a, rfl⟩ : ∃ a : Nat, v = a := ⟨v.toNat, by omega⟩
    rw [Int.toNat_natCast]
    by_cases hr : S.row (4 * a + 3) = []
    · have e : S.drainS a = S.setRow (4 * a + 3) [] := by unfold PS.drainS; rw [hr]; rfl
      rw [e, hr]
      exact rdrain_nil h a (by omega) hr
    · exact rdrain_some h hR hok hBw a (by omega) hr

set_option maxRecDepth 100000 in
set_option maxHeartbeats 2000000 in
theorem rHome_any (h : DocS w B L s S) (hR : s.Right) (hok : S.Ok) : Calls Try.prog 43 #[.pointer (some ⟨L.r, 0, none⟩)] w fun e w' => (∃ r : Bool, e = .returned (.bool r) ∧ (r = true ↔ S.isHome)) ∧ w = w' := by
  obtain ⟨c0, -, -, -, c8, c9⟩ := h.lies.cellS
  obtain ⟨tg, tcap, htv, htk⟩ := h.taken
  rw [htv] at c9
  have hoff := Shp.off_le hR
  have hW2 := hR.W2
  have HTK := Lib.hid (fun (n : Nat) (h1 : 1 ≤ n) (h2 : n ≤ s.off 3) => show w.cell? ⟨tg, n, none⟩ = some (.bool (S.blk n).taken) from by
    have := (htk n (h.there.2 ⟨by omega, by omega⟩)).1
    rwa [Int.toNat_natCast] at this)
  have HV := Lib.hid (fun (v : Nat) (hv : v < s.W) => show ∃ a cap, w.cell? ⟨L.q, v, none⟩ = some (.slice a (S.row (4 * v + 3)).length cap) ∧ (S.row (4 * v + 3)).length ≤ 192000 from by
    obtain ⟨cV, -⟩ := h.lies.cellQ hv
    have hk : 4 * v + 3 < 4 * s.W := by omega
    have hs := hok.short (show 4 * v + 3 < 4 * S.W by rw [h.W]; exact hk)
    rcases (h.lies.rows _ hk).rd with ⟨e, hl⟩ | ⟨g, off, cap, cs, e, _⟩
    · exact ⟨none, 0, by rw [cV, e, hl]; rfl, hs⟩
    · exact ⟨_, cap, by rw [cV, e], hs⟩)
  have HI := Lib.hid (show S.isHome ↔ (∀ n : Nat, 1 ≤ n → n ≤ s.off 3 → (S.blk n).taken = false) ∧ ∀ v, v < s.W → S.row (4 * v + 3) = [] from by
    unfold PS.isHome
    rw [h.W]
    refine and_congr ⟨fun hh n h1 h2 => hh n (h.there.2 ⟨by omega, by omega⟩), fun hh x hx => ?_⟩ Iff.rfl
    have hx' := h.there.1 hx
    have := hh x.toNat (by omega) (by omega)
    rwa [show ((x.toNat : Nat) : Int) = x by omega] at this)
  generalize S.isHome = IH at HI ⊢
  generalize L.r = r at c0 c8 c9 ⊢
  generalize L.q = q at c8 HV
  generalize s.off 3 = N at c9 hoff HTK HI
  generalize s.W = W at c0 c8 hW2 HV HI
  clear h hR hok htv htk
  go_enter Try.func43, Try.ntmps43
  go_wp2_with fail
  go_loopw [3] (fun t wr => ∃ n : Nat, 1 ≤ n ∧ n ≤ N + 1 ∧ t = .int .i64 n ∧ (∀ k : Nat, 1 ≤ k → k < n → (S.blk k).taken = false) ∧ w = wr) (fun t _ => N + 1 - (intOf t).toNat)
  case atStart => exact ⟨1, by omega, by omega, rfl, fun k h1 h2 => by omega, rfl⟩
  case round =>
    obtain ⟨n, hn1, hn, rfl, hk, rfl⟩ := hrel
    have HK := Lib.hid hk
    clear hk
    by_cases hlt : n ≤ N
    · have cT := HTK.out n hn1 hlt
      have n0 : (n : Int) < (N : Int) + 1 := by omega
      cases ht : (S.blk n).taken with
      | true =>
        rw [ht] at cT
        have HT := Lib.hid ht
        clear ht
        go_wp2_with fail
        go_ret
        refine ⟨⟨false, rfl, ?_⟩, rfl⟩
        rw [HI.out]
        simp only [Bool.false_eq_true, false_iff]
        intro hh
        have := hh.1 n hn1 hlt
        rw [HT.out] at this
        cases this
      | false =>
        rw [ht] at cT
        have HT := Lib.hid ht
        clear ht
        go_wp2_with fail
        go_roundw
        case rel => exact ⟨n + 1, by omega, by omega, by go_num, fun k h1 h2 => by
          by_cases e : k = n
          · rw [e]; exact HT.out
          · exact HK.out k h1 (by omega), trivial⟩
        case measure => simp [intOf]; omega
    · obtain rfl : n = N + 1 := by omega
      have n0 : ¬ (N : Int) + 1 < (N : Int) + 1 := by omega
      go_wp2_with fail
      go_loopw [4] (fun t wr => ∃ v : Nat, v ≤ W ∧ t = .int .i64 v ∧ (∀ k : Nat, k < v → S.row (4 * k + 3) = []) ∧ w = wr) (fun t _ => W - (intOf t).toNat)
      case atStart => exact ⟨0, by omega, rfl, fun k h2 => by omega, rfl⟩
      case round =>
        obtain ⟨v, hv, rfl, hk, rfl⟩ := hrel
        have HK2 := Lib.hid hk
        clear hk
        by_cases hlt2 : v < W
        · obtain ⟨a, cap, cV, hl⟩ := HV.out v hlt2
          have v0 : (0 : Int) ≤ (v : Int) := by omega
          have v1 : (v : Int) < (W : Int) := by omega
          by_cases hz : S.row (4 * v + 3) = []
          · rw [hz] at cV
            simp only [List.length_nil] at cV
            have HZ := Lib.hid hz
            clear hz hl
            go_wp2_with fail
            go_roundw
            case rel => exact ⟨v + 1, by omega, by go_num, fun k h2 => by
              by_cases e : k = v
              · rw [e]; exact HZ.out
              · exact HK2.out k (by omega), trivial⟩
            case measure => simp [intOf]; omega
          · obtain ⟨m, hm⟩ : ∃ m, (S.row (4 * v + 3)).length = m + 1 := ⟨(S.row (4 * v + 3)).length - 1, by have := List.length_pos_iff.2 hz; omega⟩
            rw [hm] at cV hl
            have HZ := Lib.hid hz
            clear hz hm
            have m0 : (0 : Int) < (m : Int) + 1 := by omega
            go_wp2_with fail
            go_ret
            refine ⟨⟨false, rfl, ?_⟩, rfl⟩
            rw [HI.out]
            simp only [Bool.false_eq_true, false_iff]
            exact fun hh => HZ.out (hh.2 v hlt2)
        · obtain rfl : v = W := by omega
          go_wp2_with fail
          go_ret
          refine ⟨⟨true, rfl, ?_⟩, rfl⟩
          rw [HI.out]
          simp only [true_iff]
          exact ⟨fun k h1 h2 => HK.out k h1 (by omega), HK2.out⟩
end

end Go.Proofs.Ytccadafajocbgaa
