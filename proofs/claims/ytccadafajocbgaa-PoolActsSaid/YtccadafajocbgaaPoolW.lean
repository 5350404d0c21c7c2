/- Layer 10: the document's pool, and how it lies. -/
import Derived.Test.YtccadafajocbgaaPoolV
import Derived.Test.YtccadafajocbgaaPoolQ
open Go Go.RowKit
namespace Go.Proofs.Ytccadafajocbgaa

/-- v reads as the numbers l: nil, or a part of a block. -/
def Rd (w : World) (B : Nat) (v : Value) (l : List Int) : Prop :=
  (v = .slice none 0 0 ∧ l = []) ∨
  ∃ g off cap cs, v = .slice (some ⟨g, off, none⟩) l.length cap ∧ l.length ≤ cap ∧ B ≤ g ∧ Blk w g cs 3 ∧ ∀ (i : Nat) (u : Int), l[i]? = some u → cs[off + i]? = some (.int .i64 u)

section
variable {w w' : World} {F : Nat → Prop} {B : Nat} {v : Value} {l : List Int}

theorem RowI.rd (h : RowI w B v l) : Rd w B v l := by
  rcases h.2 with ⟨rfl, hn⟩ | ⟨g, cap, cur, rfl, hb, hg, hn, hm, hcs, ht⟩
  · exact .inl ⟨rfl, List.eq_nil_of_length_eq_zero hn⟩
  · refine .inr ⟨g, 0, cap, cur.toList, rfl, hn, hb, by unfold Blk; simpa using hg, fun i u hu => ?_⟩
    have hi : i < l.length := (List.getElem?_eq_some_iff.1 hu).1
    have e : (cur.toList.take (l.length * 1))[i]? = (l.map (Value.int .i64))[i]? := by rw [ht]
    rw [List.getElem?_take, if_pos (by omega), List.getElem?_map, hu] at e
    rw [Nat.zero_add]; exact e
theorem Rd.lt (h : Rd w B v l) {g : Nat} (hg : v.ownBlock = some g) : B ≤ g ∧ g < w.heap.size := by
  rcases h with ⟨rfl, _⟩ | ⟨g', off, cap, cs, rfl, _, hb, hk, _⟩
  · simp [Value.ownBlock] at hg
  · simp [Value.ownBlock] at hg
    subst hg; exact ⟨hb, hk.lt⟩
theorem Rd.turn (h : Rd w B v l) (ht : Turn F w w') (hF : ∀ g, v.ownBlock = some g → ¬ F g) : Rd w' B v l := by
  rcases h with h | ⟨g, off, cap, cs, rfl, hc, hb, hk, hr⟩
  · exact .inl h
  · exact .inr ⟨g, off, cap, cs, rfl, hc, hb, hk.turn ht (hF g rfl), hr⟩
theorem Rd.ne_type (h : Rd w B v l) {b : Nat} {c : List Value} {t : TypeId} (k : Blk w b c t) (hst : 3 ≠ t) : v.ownBlock ≠ some b := by
  rcases h with ⟨rfl, _⟩ | ⟨g', off, cap, cs, rfl, _, hb, hk, _⟩
  · simp [Value.ownBlock]
  · intro e
    simp [Value.ownBlock] at e
    exact hk.ne_type k hst e
theorem Rd.ne_own (h : Rd w B v l) {B' n size : Nat} {e : TypeId} {v' : Value} {xs : List Value} (k : w.ownsRow B' e size v' n xs) (hst : 3 ≠ e) : ∀ g, v.ownBlock = some g → v'.ownBlock ≠ some g := by
  intro g hg
  rcases h with ⟨rfl, _⟩ | ⟨g', off, cap, cs, rfl, _, hb, hk, _⟩
  · simp [Value.ownBlock] at hg
  · simp [Value.ownBlock] at hg
    subst hg
    exact own_ne_type k hk (fun e => hst e.symm)

/-- A row of the document's: its own, to be appended to; or (behind a Take, of those that are free) to be read only. -/
def RowK (o : Bool) (k : Nat) (w : World) (B : Nat) (v : Value) (l : List Int) : Prop := if o = true ∨ k % 4 = 3 then RowI w B v l else Rd w B v l
theorem RowK.rd {o : Bool} {k : Nat} (h : RowK o k w B v l) : Rd w B v l := by
  unfold RowK at h
  split at h
  · exact RowI.rd h
  · exact h
theorem RowK.own {k : Nat} (h : RowK true k w B v l) : RowI w B v l := by
  unfold RowK at h; rwa [if_pos (.inl rfl)] at h
theorem RowK.far {o : Bool} {k : Nat} (h : RowK o k w B v l) (hk : k % 4 = 3) : RowI w B v l := by
  unfold RowK at h; rwa [if_pos (.inr hk)] at h
theorem RowK.of {o : Bool} {k : Nat} (h : RowI w B v l) : RowK o k w B v l := by
  unfold RowK
  split
  · exact h
  · exact RowI.rd h
theorem RowK.ofRd {k : Nat} (h : Rd w B v l) (hk : k % 4 ≠ 3) : RowK false k w B v l := by
  unfold RowK; rwa [if_neg (by simp [hk])]
theorem RowK.turn {o : Bool} {k : Nat} (h : RowK o k w B v l) (ht : Turn F w w') (hF : ∀ g, v.ownBlock = some g → ¬ F g) : RowK o k w' B v l := by
  unfold RowK at h ⊢
  split at h
  · rename_i hc; rw [if_pos hc]; exact own_turn h ht hF
  · rename_i hc; rw [if_neg hc]; exact h.turn ht hF
theorem RowK.lt {o : Bool} {k : Nat} (h : RowK o k w B v l) {g : Nat} (hg : v.ownBlock = some g) : B ≤ g ∧ g < w.heap.size := h.rd.lt hg
end

/-- Where the document's pool lies. -/
structure RLay where
  r : Nat
  f : Nat
  q : Nat
  tv : Value
  V : Nat → Value
def RLay.own (L : RLay) (W : Nat) (k : Nat) : Prop := k = L.r ∨ k = L.f ∨ k = L.q ∨ L.tv.ownBlock = some k ∨ ∃ j, j < 4 * W ∧ (L.V j).ownBlock = some k
def RLay.top (L : RLay) (s : Shp) : List Value := s.cells ++ [.slice (some ⟨L.f, 0, none⟩) s.W s.W, .slice (some ⟨L.q, 0, none⟩) s.W s.W, L.tv]
def RLay.frees (L : RLay) (W : Nat) : List Value := (List.range (3 * W)).map fun j => L.V (4 * (j / 3) + j % 3)
def RLay.fars (L : RLay) (W : Nat) : List Value := (List.range W).map fun j => L.V (4 * j + 3)

structure RLies (o : Bool) (w : World) (B : Nat) (L : RLay) (s : Shp) (rows : Nat → List Int) (tk : List Bool) : Prop where
  top : Blk w L.r (L.top s) 81
  frees : Blk w L.f (L.frees s.W) 75
  fars : Blk w L.q (L.fars s.W) 74
  taken : w.ownsRow B 4 1 L.tv tk.length (tk.map Value.bool)
  rows : ∀ k, k < 4 * s.W → RowK o k w B (L.V k) (rows k)
  dis : ∀ j k, j < 4 * s.W → k < 4 * s.W → j ≠ k → ∀ g, (L.V j).ownBlock = some g → (L.V k).ownBlock ≠ some g
  rB : B ≤ L.r ∧ B ≤ L.f ∧ B ≤ L.q

section
variable {o : Bool} {w w1 w' : World} {B : Nat} {L : RLay} {s : Shp} {rows : Nat → List Int} {tk : List Bool} {F : Nat → Prop}

theorem RLies.lt (h : RLies o w B L s rows tk) {g : Nat} (hg : L.own s.W g) : B ≤ g ∧ g < w.heap.size := by
  rcases hg with rfl | rfl | rfl | hg | ⟨j, hj, hg⟩
  · exact ⟨h.rB.1, h.top.lt⟩
  · exact ⟨h.rB.2.1, h.frees.lt⟩
  · exact ⟨h.rB.2.2, h.fars.lt⟩
  · rcases h.taken.2 with ⟨e, _⟩ | ⟨g', cap, cur, e, hb, hgg, _⟩
    · rw [e] at hg; simp [Value.ownBlock] at hg
    · rw [e] at hg; simp [Value.ownBlock] at hg
      subst hg
      exact ⟨hb, (Array.getElem?_eq_some_iff.1 hgg).1⟩
  · exact (h.rows j hj).lt hg
theorem RLies.turn (h : RLies o w B L s rows tk) (ht : Turn F w w') (hF : ∀ k, L.own s.W k → ¬ F k) : RLies o w' B L s rows tk :=
  ⟨h.top.turn ht (hF _ (.inl rfl)), h.frees.turn ht (hF _ (.inr (.inl rfl))), h.fars.turn ht (hF _ (.inr (.inr (.inl rfl)))),
    own_turn h.taken ht (fun g hg => hF g (.inr (.inr (.inr (.inl hg))))), fun k hk => (h.rows k hk).turn ht (fun g hg => hF g (.inr (.inr (.inr (.inr ⟨k, hk, hg⟩))))), h.dis, h.rB⟩
theorem RLies.still (h : RLies o w B L s rows tk) (ht : Turn (fun _ => False) w w') : RLies o w' B L s rows tk := h.turn ht (fun _ _ q => q)

def RLay.setV (L : RLay) (k : Nat) (v : Value) : RLay := { L with V := fun j => if j = k then v else L.V j }
def RLay.setT (L : RLay) (v : Value) : RLay := { L with tv := v }

theorem RLay.frees_set (L : RLay) {W a c : Nat} (ha : a < W) (hc : c < 3) (v : Value) : (L.frees W).set (a * 3 + c) v = (L.setV (4 * a + c) v).frees W := by
  unfold RLay.frees RLay.setV
  apply List.ext_getElem?
  intro i
  rw [List.getElem?_set]
  by_cases hik : a * 3 + c = i
  · subst hik
    rw [if_pos rfl, if_pos (by simp; omega), List.getElem?_map, List.getElem?_range (by omega)]
    simp only [Option.map_some]
    rw [if_pos (by omega)]
  · rw [if_neg hik]
    by_cases hi : i < 3 * W
    · rw [List.getElem?_map, List.getElem?_map, List.getElem?_range hi]
      simp only [Option.map_some]
      rw [if_neg (by omega)]
    · rw [List.getElem?_eq_none (by simp; omega), List.getElem?_eq_none (by simp; omega)]
theorem RLay.fars_set (L : RLay) {W a c : Nat} (hc : c < 3) (v : Value) : (L.setV (4 * a + c) v).fars W = L.fars W := by
  unfold RLay.fars RLay.setV
  apply List.map_congr_left
  intro j _
  simp only []
  rw [if_neg (by omega)]
theorem RLay.fars_put (L : RLay) {W a : Nat} (ha : a < W) (v : Value) : (L.fars W).set a v = (L.setV (4 * a + 3) v).fars W := by
  unfold RLay.fars RLay.setV
  apply List.ext_getElem?
  intro i
  rw [List.getElem?_set]
  by_cases hik : a = i
  · subst hik
    rw [if_pos rfl, if_pos (by simp; omega), List.getElem?_map, List.getElem?_range (by omega)]
    simp
  · rw [if_neg hik]
    by_cases hi : i < W
    · rw [List.getElem?_map, List.getElem?_map, List.getElem?_range hi]
      simp only [Option.map_some]
      rw [if_neg (by omega)]
    · rw [List.getElem?_eq_none (by simp; omega), List.getElem?_eq_none (by simp; omega)]
theorem RLay.frees_put (L : RLay) {W a : Nat} (v : Value) : (L.setV (4 * a + 3) v).frees W = L.frees W := by
  unfold RLay.frees RLay.setV
  apply List.map_congr_left
  intro j _
  simp only []
  rw [if_neg (by omega)]

/-- Row k's value is another: all other rows are apart from it. -/
theorem RLies.rows_set (h : RLies o w B L s rows tk) {k : Nat} (hk : k < 4 * s.W) {v' : Value} {l : List Int} (h1 : RowK o k w1 B v' l) (h2 : Turn (fun g => (L.V k).ownBlock = some g) w w1)
    (h3 : ∀ g, v'.ownBlock = some g → (L.V k).ownBlock = some g ∨ w.heap.size ≤ g) {a : Addr} {c : List Value} {t : TypeId} (hb : Blk w a.block c t) (ht : 3 ≠ t) :
    (∀ j, j < 4 * s.W → RowK o j (w1.setCell a v') B ((L.setV k v').V j) (if j = k then l else rows j)) ∧
    ∀ i j, i < 4 * s.W → j < 4 * s.W → i ≠ j → ∀ g, ((L.setV k v').V i).ownBlock = some g → ((L.setV k v').V j).ownBlock ≠ some g := by
  have hb1 := hb.turn h2 ((h.rows k hk).rd.ne_type hb ht)
  have hT : Turn (fun g => g = a.block) w1 (w1.setCell a v') := Turn.setCell (F := fun g => g = a.block) (p := a) (Turn.refl _ _) (.inl rfl) _
  have hnew : ∀ j, j < 4 * s.W → j ≠ k → ∀ g, (L.V j).ownBlock = some g → v'.ownBlock ≠ some g := by
    intro j hj hjk g hg hv
    rcases h3 g hv with e | hge
    · exact h.dis j k hj hk hjk g hg e
    · have := ((h.rows j hj).lt hg).2
      omega
  refine ⟨fun j hj => ?_, fun i j hi hj hij g hgi hgj => ?_⟩
  · by_cases hjk : j = k
    · subst hjk
      simp only [RLay.setV, if_true]
      exact h1.turn hT (fun g hg e => by subst e; exact h1.rd.ne_type hb1 ht hg)
    · simp only [RLay.setV, if_neg hjk]
      have h4 := (h.rows j hj).turn h2 (fun g hg hg2 => h.dis j k hj hk hjk g hg hg2)
      exact h4.turn hT (fun g hg e => by subst e; exact h4.rd.ne_type hb1 ht hg)
  · simp only [RLay.setV] at hgi hgj
    by_cases hik : i = k
    · subst hik
      rw [if_pos rfl] at hgi
      rw [if_neg (Ne.symm hij)] at hgj
      exact hnew j hj (Ne.symm hij) g hgj hgi
    · rw [if_neg hik] at hgi
      by_cases hjk : j = k
      · subst hjk
        rw [if_pos rfl] at hgj
        exact hnew i hi hik g hgi hgj
      · rw [if_neg hjk] at hgj
        exact h.dis i j hi hj hij g hgi hgj

theorem RLies.setFree (h : RLies o w B L s rows tk) {a c : Nat} (ha : a < s.W) (hc : c < 3) {v' : Value} {l : List Int} (h1 : RowK o (4 * a + c) w1 B v' l) (h2 : Turn (fun g => (L.V (4 * a + c)).ownBlock = some g) w w1)
    (h3 : ∀ g, v'.ownBlock = some g → (L.V (4 * a + c)).ownBlock = some g ∨ w.heap.size ≤ g) :
    RLies o (w1.setCell ⟨L.f, a * 3 + c, none⟩ v') B (L.setV (4 * a + c) v') s (fun j => if j = 4 * a + c then l else rows j) tk := by
  have hk : 4 * a + c < 4 * s.W := by omega
  have nt : ∀ {b' : Nat} {c' : List Value} {t : TypeId}, Blk w b' c' t → 3 ≠ t → ¬ (L.V (4 * a + c)).ownBlock = some b' := fun hb hne => (h.rows _ hk).rd.ne_type hb hne
  have hT : Turn (fun g => g = L.f) w1 (w1.setCell ⟨L.f, a * 3 + c, none⟩ v') := Turn.setCell (F := fun g => g = L.f) (p := ⟨L.f, a * 3 + c, none⟩) (Turn.refl _ _) (.inl rfl) _
  obtain ⟨hr, hd⟩ := h.rows_set hk h1 h2 h3 (a := ⟨L.f, a * 3 + c, none⟩) h.frees (by decide)
  refine ⟨?_, ?_, ?_, ?_, hr, hd, h.rB⟩
  · exact (h.top.turn h2 (nt h.top (by decide))).turn hT (h.top.ne_type h.frees (by decide))
  · have := (h.frees.turn h2 (nt h.frees (by decide))).set (a * 3 + c) v'
    rwa [L.frees_set ha hc] at this
  · have := (h.fars.turn h2 (nt h.fars (by decide))).turn hT (h.fars.ne_type h.frees (by decide))
    rwa [← L.fars_set hc v'] at this
  · refine own_turn (own_turn h.taken h2 (fun g hg hg2 => (h.rows _ hk).rd.ne_own h.taken (by decide) g hg2 hg)) hT (fun g hg e => ?_)
    subst e
    exact own_ne_type h.taken h.frees (by decide) hg

theorem RLies.setFar (h : RLies o w B L s rows tk) {a : Nat} (ha : a < s.W) {v' : Value} {l : List Int} (h1 : RowI w1 B v' l) (h2 : Turn (fun g => (L.V (4 * a + 3)).ownBlock = some g) w w1)
    (h3 : ∀ g, v'.ownBlock = some g → (L.V (4 * a + 3)).ownBlock = some g ∨ w.heap.size ≤ g) :
    RLies o (w1.setCell ⟨L.q, a, none⟩ v') B (L.setV (4 * a + 3) v') s (fun j => if j = 4 * a + 3 then l else rows j) tk := by
  have hk : 4 * a + 3 < 4 * s.W := by omega
  have nt : ∀ {b' : Nat} {c' : List Value} {t : TypeId}, Blk w b' c' t → 3 ≠ t → ¬ (L.V (4 * a + 3)).ownBlock = some b' := fun hb hne => (h.rows _ hk).rd.ne_type hb hne
  have hT : Turn (fun g => g = L.q) w1 (w1.setCell ⟨L.q, a, none⟩ v') := Turn.setCell (F := fun g => g = L.q) (p := ⟨L.q, a, none⟩) (Turn.refl _ _) (.inl rfl) _
  obtain ⟨hr, hd⟩ := h.rows_set hk (RowK.of h1) h2 h3 (a := ⟨L.q, a, none⟩) h.fars (by decide)
  refine ⟨?_, ?_, ?_, ?_, hr, hd, h.rB⟩
  · exact (h.top.turn h2 (nt h.top (by decide))).turn hT (h.top.ne_type h.fars (by decide))
  · have := (h.frees.turn h2 (nt h.frees (by decide))).turn hT (h.frees.ne_type h.fars (by decide))
    rwa [← L.frees_put v'] at this
  · have := (h.fars.turn h2 (nt h.fars (by decide))).set a v'
    rwa [L.fars_put ha] at this
  · refine own_turn (own_turn h.taken h2 (fun g hg hg2 => (h.rows _ hk).rd.ne_own h.taken (by decide) g hg2 hg)) hT (fun g hg e => ?_)
    subst e
    exact own_ne_type h.taken h.fars (by decide) hg

/-- The flags are others, in a slice of another value. -/
theorem RLies.setTk (h : RLies o w B L s rows tk) {v' : Value} {tk' : List Bool} (h1 : w1.ownsRow B 4 1 v' tk'.length (tk'.map Value.bool)) (h2 : Turn (fun g => L.tv.ownBlock = some g) w w1) :
    RLies o (w1.setCell ⟨L.r, 9, none⟩ v') B (L.setT v') s rows tk' := by
  have nt : ∀ {b' : Nat} {c' : List Value} {t : TypeId}, Blk w b' c' t → 4 ≠ t → ¬ L.tv.ownBlock = some b' := fun hb hne => own_ne_type h.taken hb hne
  have hT : Turn (fun g => g = L.r) w1 (w1.setCell ⟨L.r, 9, none⟩ v') := Turn.setCell (F := fun g => g = L.r) (p := ⟨L.r, 9, none⟩) (Turn.refl _ _) (.inl rfl) _
  have ht1 := h.top.turn h2 (nt h.top (by decide))
  refine ⟨?_, ?_, ?_, ?_, fun k hk => ?_, h.dis, h.rB⟩
  · have := ht1.set 9 v'
    exact this
  · exact (h.frees.turn h2 (nt h.frees (by decide))).turn hT (h.frees.ne_type h.top (by decide))
  · exact (h.fars.turn h2 (nt h.fars (by decide))).turn hT (h.fars.ne_type h.top (by decide))
  · exact own_turn h1 hT (fun g hg e => by subst e; exact own_ne_type h1 ht1 (by decide) hg)
  · have h4 := (h.rows k hk).turn h2 (fun g hg hg2 => (h.rows k hk).rd.ne_own h.taken (by decide) g hg hg2)
    exact h4.turn hT (fun g hg e => by subst e; exact h4.rd.ne_type ht1 (by decide) hg)
end

end Go.Proofs.Ytccadafajocbgaa
