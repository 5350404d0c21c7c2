/- Layer 10: the document's Take. -/
import Derived.Test.YtccadafajocbgaaPoolRA
import Derived.Test.YtccadafajocbgaaRegU
import Derived.Deep.CutRange
import Derived.BigRegion
open Go Go.RowKit
set_option linter.unusedSimpArgs false
namespace Go.Proofs.Ytccadafajocbgaa

section
variable {o : Bool} {w w' : World} {B : Nat} {L : RLay} {s : Shp} {S : PS} {rows : Nat → List Int} {tk : List Bool}

theorem RLies.setFlag (h : RLies o w B L s rows tk) {tg cap : Nat} (hb : L.tv = .slice (some ⟨tg, 0, none⟩) tk.length cap) (x : Nat) (t : Bool) :
    RLies o (w.setCell ⟨tg, x, none⟩ (.bool t)) B L s rows (tk.set x t) := by
  have ho := h.taken
  rw [hb] at ho
  have hs := ho.stored x (.bool t)
  have e : (tk.map Value.bool).set x (.bool t) = (tk.set x t).map Value.bool := by rw [List.map_set]
  rw [e] at hs
  have hT : Turn (fun g => L.tv.ownBlock = some g) w (w.setCell ⟨tg, x, none⟩ (.bool t)) := (Turn.refl _ _).setCell (.inl (by rw [hb]; rfl)) _
  refine ⟨h.top.turn hT (own_ne_type h.taken h.top (by decide)), h.frees.turn hT (own_ne_type h.taken h.frees (by decide)), h.fars.turn hT (own_ne_type h.taken h.fars (by decide)), ?_, fun k hk => ?_, h.dis, h.rB⟩
  · rw [hb, List.length_set]; exact hs.1
  · exact (h.rows k hk).turn hT (fun g hg hg2 => (h.rows k hk).rd.ne_own h.taken (by decide) g hg hg2)

theorem taken_set {x : Int} (hx : S.there x) (t : Bool) : (false :: S.blks.map PB.taken).set x.toNat t = false :: (S.setTaken x t).blks.map PB.taken := by
  have h1 := hx.1
  obtain ⟨j, rfl⟩ : ∃ j : Nat, x = (j : Int) + 1 := ⟨(x - 1).toNat, by omega⟩
  have e1 : ((j : Int) + 1).toNat = j + 1 := by omega
  have e2 : ((j : Int) + 1 - 1).toNat = j := by omega
  unfold PS.setTaken
  simp only [e1, e2, List.set_cons_succ, List.map_set]
theorem taken_get {x : Int} (hx : S.there x) : (false :: S.blks.map PB.taken)[x.toNat]? = some (S.blk x).taken := by
  have h1 := hx.1
  have hb := S.blk_get hx
  obtain ⟨j, rfl⟩ : ∃ j : Nat, x = (j : Int) + 1 := ⟨(x - 1).toNat, by omega⟩
  have e1 : ((j : Int) + 1).toNat = j + 1 := by omega
  have e2 : ((j : Int) + 1 - 1).toNat = j := by omega
  rw [e2] at hb
  rw [e1, List.getElem?_cons_succ, List.getElem?_map, hb]; rfl
theorem DocS.taken (h : DocS w B L s S) : ∃ tg cap, L.tv = .slice (some ⟨tg, 0, none⟩) (s.off 3 + 1) cap ∧ ∀ x, S.there x → w.cell? ⟨tg, x.toNat, none⟩ = some (.bool (S.blk x).taken) ∧ w.frozen? ⟨tg, x.toNat, none⟩ = false := by
  obtain ⟨tg, tcap, htf, -, -⟩ := h.lies.taken.form (by rw [h.tkLen]; omega)
  refine ⟨tg, tcap, by rw [htf, h.tkLen], fun x hx => ?_⟩
  have ht := h.lies.taken
  rw [htf] at ht
  have hx' := h.there.1 hx
  have hlt : x.toNat < (false :: S.blks.map PB.taken).length := by rw [h.tkLen]; omega
  refine ⟨?_, ?_⟩
  · have := World.ownsRow.cellAt ht x.toNat (by omega)
    rw [this, List.getElem?_map, taken_get hx]; rfl
  · rcases ht.2 with ⟨e, _⟩ | ⟨g, cap, cur, e, _, hg, _⟩
    · cases e
    · injection e with e; injection e with e; injection e with e
      subst e
      exact frozen_of_row w _ _ cur _ hg
theorem DocS.setTaken (h : DocS w B L s S) {x : Int} (hx : S.there x) {t : Bool} {tg cap : Nat} (hb : L.tv = .slice (some ⟨tg, 0, none⟩) (s.off 3 + 1) cap) : DocS (w.setCell ⟨tg, x.toNat, none⟩ (.bool t)) B L s (S.setTaken x t) := by
  have h1 := h.lies.setFlag (by rw [h.tkLen]; exact hb) x.toNat t
  rw [taken_set hx t] at h1
  refine ⟨h1, h.W, by rw [PS.setTaken_len]; exact h.N, fun y hy => ?_⟩
  have hy := PS.setTaken_there.1 hy
  have := PS.setTaken_place t hx hy.1
  rw [this.1, this.2.1]
  exact h.info y hy

theorem rtake_out (h : DocS w B L s S) (v c : Int) (ho : v < 0 ∨ S.W ≤ v ∨ c < 0 ∨ 3 ≤ c) : Calls Try.prog 16 #[.pointer (some ⟨L.r, 0, none⟩), .int .i64 v, .int .i64 c] w fun e w' => e = .returned (.tuple #[.int .i64 0, .int .i64 1]) ∧ w = w' := by
  have CW := Lib.hid (rworker_any h.lies v)
  rw [h.W] at ho
  generalize L.r = r at CW ⊢
  generalize s.W = W at CW ho ⊢
  clear h
  by_cases hv : 0 ≤ v ∧ v < W
  · rw [show decide (0 ≤ v ∧ v < W) = true from decide_eq_true hv] at CW
    by_cases hc : c < 0
    · clear ho
      go_enter Try.func16, Try.ntmps16
      go_wp2_with fail
      refine CW.out.mono ?_
      rintro e w1 ⟨rfl, rfl⟩
      go_wp2_with fail
      exact bodyPost_ret (v := .tuple #[.int .i64 0, .int .i64 1]) (by simp [results, Try.results16, go_sem]) rfl ⟨rfl, rfl⟩
    · have hc2 : 2 < c := by omega
      clear ho
      go_enter Try.func16, Try.ntmps16
      go_wp2_with fail
      refine CW.out.mono ?_
      rintro e w1 ⟨rfl, rfl⟩
      go_wp2_with fail
      exact bodyPost_ret (v := .tuple #[.int .i64 0, .int .i64 1]) (by simp [results, Try.results16, go_sem]) rfl ⟨rfl, rfl⟩
  · rw [show decide (0 ≤ v ∧ v < W) = false from decide_eq_false hv] at CW
    clear ho hv
    go_enter Try.func16, Try.ntmps16
    go_wp2_with fail
    refine CW.out.mono ?_
    rintro e w1 ⟨rfl, rfl⟩
    go_wp2_with fail
    exact bodyPost_ret (v := .tuple #[.int .i64 0, .int .i64 1]) (by simp [results, Try.results16, go_sem]) rfl ⟨rfl, rfl⟩

theorem rtake_empty (h : DocS w B L s S) (v c : Nat) (hv : v < s.W) (hc : c < 3) (hr : S.row (4 * v + c) = []) : Calls Try.prog 16 #[.pointer (some ⟨L.r, 0, none⟩), .int .i64 v, .int .i64 c] w fun e w' => e = .returned (.tuple #[.int .i64 0, .int .i64 9]) ∧ w = w' := by
  have CW := Lib.hid (rworker_any h.lies v)
  rw [show decide (0 ≤ (v : Int) ∧ (v : Int) < s.W) = true from decide_eq_true (by omega)] at CW
  obtain ⟨-, -, -, c7, -, -⟩ := h.lies.cellS
  obtain ⟨cV, -⟩ := h.lies.cellF hv hc
  obtain ⟨a, cap, hV⟩ : ∃ a cap, L.V (4 * v + c) = .slice a 0 cap := by
    have := (h.lies.rows _ (show 4 * v + c < 4 * s.W by omega)).rd
    rw [hr] at this
    rcases this with ⟨e, _⟩ | ⟨g, off, cap, cs, e, _⟩
    · exact ⟨_, _, e⟩
    · exact ⟨_, _, e⟩
  rw [hV] at cV
  generalize L.r = r at CW c7 ⊢
  generalize L.f = f at c7 cV
  generalize s.W = W at c7 hv CW
  clear h hr hV
  have i0 : (0 : Int) ≤ (c : Int) := by omega
  have i1 : (c : Int) < 3 := by omega
  have i2 : ¬ (2 : Int) < (c : Int) := by omega
  have v0 : (0 : Int) ≤ (v : Int) := by omega
  have v1 : (v : Int) < (W : Int) := by omega
  go_enter Try.func16, Try.ntmps16
  go_wp2_with fail
  refine CW.out.mono ?_
  rintro e w1 ⟨rfl, rfl⟩
  go_wp2_with fail
  exact bodyPost_ret (v := .tuple #[.int .i64 0, .int .i64 9]) (by simp [results, Try.results16, go_sem]) rfl ⟨rfl, rfl⟩

set_option maxRecDepth 100000 in
set_option maxHeartbeats 2000000 in
theorem rtake_ok (h : DocS w B L s S) (hR : s.Right) (v c : Nat) (hv : v < s.W) (hc : c < 3) {x : Int} {l : List Int} (hr : S.row (4 * v + c) = x :: l) (hx : S.there x) :
    Calls Try.prog 16 #[.pointer (some ⟨L.r, 0, none⟩), .int .i64 v, .int .i64 c] w (DPost w B L s ((S.setRow (4 * v + c) l).setTaken x true) (.tuple #[.int .i64 x, .int .i64 0])) := by
  have CW := Lib.hid (rworker_any h.lies v)
  rw [show decide (0 ≤ (v : Int) ∧ (v : Int) < s.W) = true from decide_eq_true (by omega)] at CW
  obtain ⟨-, -, -, c7, -, c9⟩ := h.lies.cellS
  obtain ⟨cV, fV⟩ := h.lies.cellF hv hc
  have hkk : 4 * v + c < 4 * s.W := by omega
  have hrow := (h.lies.rows _ hkk).rd
  rw [hr] at hrow
  obtain ⟨g, off, cap, cs, hV, hcap, hg, hgk, hgr⟩ : ∃ g off cap cs, L.V (4 * v + c) = .slice (some ⟨g, off, none⟩) (l.length + 1) (cap + 1) ∧ l.length ≤ cap ∧ B ≤ g ∧ Blk w g cs 3 ∧ ∀ (i : Nat) (u : Int), (x :: l)[i]? = some u → cs[off + i]? = some (.int .i64 u) := by
    rcases hrow with ⟨_, e⟩ | ⟨g, off, cap, cs, e, h1, h2, h3, h4⟩
    · cases e
    · refine ⟨g, off, cap - 1, cs, ?_, ?_, h2, h3, h4⟩
      · rw [e]; simp at h1 ⊢; omega
      · simp at h1; omega
  have cx : w.cell? ⟨g, off, none⟩ = some (.int .i64 x) := by rw [hgk.cell]; exact hgr 0 x rfl
  have hgt : Turn (fun q => (L.V (4 * v + c)).ownBlock = some q) w w := Turn.refl _ w
  have hrow' : Rd w B (.slice (if cap = 0 then some ⟨g, off, none⟩ else some ⟨g, off + 1, none⟩) l.length cap) l := by
    by_cases hc0 : cap = 0
    · rw [if_pos hc0]
      have hl0 : l = [] := List.eq_nil_of_length_eq_zero (by omega)
      subst hl0
      exact .inr ⟨g, off, cap, cs, rfl, hcap, hg, hgk, fun i u hu => by simp at hu⟩
    · rw [if_neg hc0]
      exact .inr ⟨g, off + 1, cap, cs, rfl, hcap, hg, hgk, fun i u hu => by rw [Nat.add_assoc, Nat.add_comm 1 i]; exact hgr (i + 1) u (by simpa using hu)⟩
  have hob : ∀ q, (Value.slice (if cap = 0 then some ⟨g, off, none⟩ else some ⟨g, off + 1, none⟩) l.length cap).ownBlock = some q → (L.V (4 * v + c)).ownBlock = some q ∨ w.heap.size ≤ q := by
    intro q hq
    rw [hV]
    by_cases hc0 : cap = 0
    · rw [if_pos hc0] at hq; exact .inl hq
    · rw [if_neg hc0] at hq; exact .inl hq
  have hs1 := h.lies.setFree hv hc (RowK.ofRd hrow' (by omega)) hgt hob
  obtain ⟨tg, tcap, htv, htk⟩ := h.taken
  have hx2 := h.there.1 hx
  have hD1 : DocS (w.setCell ⟨L.f, v * 3 + c, none⟩ (.slice (if cap = 0 then some ⟨g, off, none⟩ else some ⟨g, off + 1, none⟩) l.length cap)) B (L.setV (4 * v + c) (.slice (if cap = 0 then some ⟨g, off, none⟩ else some ⟨g, off + 1, none⟩) l.length cap)) s (S.setRow (4 * v + c) l) := h.setRow hs1
  have HD1 := Lib.hid hD1
  have htv1 : (L.setV (4 * v + c) (.slice (if cap = 0 then some ⟨g, off, none⟩ else some ⟨g, off + 1, none⟩) l.length cap)).tv = .slice (some ⟨tg, 0, none⟩) (s.off 3 + 1) tcap := htv
  have HTV1 := Lib.hid htv1; have HX := Lib.hid (show (S.setRow (4 * v + c) l).there x from hx)
  have hps : L.r ≠ L.f := h.lies.top.ne_type h.lies.frees (by decide)
  have htf : tg ≠ L.f := by
    have := own_ne_type h.lies.taken h.lies.frees (by decide)
    rw [htv] at this
    simpa [Value.ownBlock] using this
  obtain ⟨cT, fT⟩ := htk x hx
  have hoff := Shp.off_le hR
  rw [hV] at cV
  rw [htv] at c9
  have HO1 := Lib.hid (show L.own s.W L.f from .inr (.inl rfl))
  have HO2 := Lib.hid (show L.own s.W tg from .inr (.inr (.inr (.inl (by rw [htv]; rfl)))))
  have HOW := Lib.hid (fun q (hq : (L.setV (4 * v + c) (.slice (if cap = 0 then some ⟨g, off, none⟩ else some ⟨g, off + 1, none⟩) l.length cap)).own s.W q) => RLay.own_setV hob hkk hq)
  have hlt1 := h.lies.top.lt; have hlt2 := h.lies.frees.lt; have hlt3 := World.block_lt_of_cell? _ _ cT
  simp only [] at hlt3
  obtain ⟨xn, rfl⟩ : ∃ xn : Nat, x = xn := ⟨x.toNat, by omega⟩
  rw [Int.toNat_natCast] at cT fT
  obtain ⟨n, hn⟩ : ∃ n, n = l.length := ⟨_, rfl⟩
  have hll : n ≤ cap := by omega
  rw [← hn] at HD1 HTV1 HOW cV
  obtain ⟨r, hr0⟩ : ∃ r, r = L.r := ⟨_, rfl⟩
  obtain ⟨f, hf⟩ : ∃ f, f = L.f := ⟨_, rfl⟩
  obtain ⟨W, hW⟩ : ∃ W, W = s.W := ⟨_, rfl⟩
  obtain ⟨N, hN⟩ : ∃ N, N = s.off 3 := ⟨_, rfl⟩
  rw [← hN] at c9 hoff hx2
  rw [← hr0] at CW c7 c9 hps hlt1 ⊢
  rw [← hf] at c7 cV fV hps htf hlt2 HD1 HO1
  rw [← hW] at c7 hv
  have FIN := Lib.hid (show ∀ vv : Value, vv = .slice (if cap = 0 then some ⟨g, off, none⟩ else some ⟨g, off + 1, none⟩) n cap → DPost w B L s ((S.setRow (4 * v + c) l).setTaken xn true) (.tuple #[.int .i64 xn, .int .i64 0]) (.returned (.tuple #[.int .i64 xn, .int .i64 0])) (((w.setCell ⟨f, v * 3 + c, none⟩ vv).setCell ⟨tg, xn, none⟩ (.bool true)).drew) from by
    rintro vv rfl
    exact ⟨rfl, L.setV (4 * v + c) _, rfl, (HD1.out.setTaken HX.out HTV1.out).still ((Turn.refl _ _).drew), (((Turn.refl _ w).setCell (.inl HO1.out) _).setCell (.inl HO2.out) _).drew, HOW.out⟩)
  clear HD1 HTV1 HOW HX HO1 HO2 hr0
  clear h hr hx hV hrow hcap hg hgk hgr hgt hrow' hob hs1 hD1 htv htv1 htk hR hkk hn hf hW hN
  have i0 : (0 : Int) ≤ (c : Int) := by omega
  have i1 : (c : Int) < 3 := by omega
  have i2 : ¬ (2 : Int) < (c : Int) := by omega
  have v0 : (0 : Int) ≤ (v : Int) := by omega
  have v1 : (v : Int) < (W : Int) := by omega
  have x0 : (xn : Int) < (N : Int) + 1 := by omega
  go_enter Try.func16, Try.ntmps16
  go_wp2_with fail
  refine CW.out.mono ?_
  rintro e w1 ⟨rfl, rfl⟩
  go_wp2_with fail
  go_region
  all_goals go_wp2_with fail
  all_goals (refine bodyPost_ret (v := .tuple #[.int .i64 xn, .int .i64 0]) (by simp [results, Try.results16, go_sem]) rfl ?_)
  · exact FIN.out _ (by subst_vars; rfl)
  · exact FIN.out _ (by rw [if_neg (by assumption)])

theorem rtake_any (h : DocS w B L s S) (hR : s.Right) (hok : S.Ok) (v c : Int) : Calls Try.prog 16 #[.pointer (some ⟨L.r, 0, none⟩), .int .i64 v, .int .i64 c] w (DPost w B L s (S.takeS v c) (.tuple #[.int .i64 (S.takeR v c).1, .int .i64 (S.takeR v c).2])) := by
  unfold PS.takeS PS.takeR
  by_cases ho : v < 0 ∨ S.W ≤ v ∨ c < 0 ∨ 3 ≤ c
  · rw [if_pos ho, if_pos ho]
    refine (rtake_out h v c ho).mono ?_
    rintro e w' ⟨rfl, rfl⟩
    exact h.same _
  · rw [if_neg ho, if_neg ho]
    obtain ⟨a, rfl⟩ : ∃ a : Nat, v = a := ⟨v.toNat, by omega⟩
    obtain ⟨b, rfl⟩ : ∃ b : Nat, c = b := ⟨c.toNat, by omega⟩
    simp only [Int.toNat_natCast]
    have hW := h.W
    have ha : a < s.W := by omega
    have e4 : a * 4 + b = 4 * a + b := by omega
    rw [e4]
    cases hr : S.row (4 * a + b) with
    | nil =>
      refine (rtake_empty h a b ha (by omega) hr).mono ?_
      rintro e w' ⟨rfl, rfl⟩
      exact h.same _
    | cons x l =>
      obtain ⟨hx, -⟩ := hok.mem (4 * a + b) (by omega) x (by rw [hr]; simp)
      exact rtake_ok h hR a b ha (by omega) hr hx
end

end Go.Proofs.Ytccadafajocbgaa
