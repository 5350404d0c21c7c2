/- slices.Delete of the first, slices.Insert at the front, at []int, for a row of the call's own: the library's contracts in the words of rows. -/
import Derived.Test.YtccadafajocbgaaPoolA
import Derived.Test.YtccadafajocbgaaShf
open Go Go.RowKit
namespace Go.Proofs.Ytccadafajocbgaa

/-- Block g has cap cells of type e, none frozen. -/
def Shaped (w : World) (g cap : Nat) (e : TypeId) : Prop := ∃ cur : Array Value, w.heap[g]? = some (.cells cur e (0, 0)) ∧ cur.size = cap

theorem Shaped.free {w : World} {g cap : Nat} {e : TypeId} (h : Shaped w g cap e) (i : Nat) : w.frozen? ⟨g, i, none⟩ = false := by
  obtain ⟨cur, h, _⟩ := h
  exact frozen_of_row w g i cur e h
theorem Shaped.is {w : World} {g cap : Nat} {e : TypeId} (h : Shaped w g cap e) {i : Nat} (hi : i < cap) : (w.cell? ⟨g, i, none⟩).isSome = true := by
  obtain ⟨cur, h, hs⟩ := h
  rw [cell_of_row w g i cur e (0, 0) h, Array.getElem?_eq_getElem (by omega)]; rfl
theorem Shaped.setCell {w : World} {g cap : Nat} {e : TypeId} (h : Shaped w g cap e) (i : Nat) (u : Value) : Shaped (w.setCell ⟨g, i, none⟩ u) g cap e := by
  obtain ⟨cur, h, hs⟩ := h
  exact ⟨cur.setIfInBounds i u, heap_setCell_same w g i cur e u h, by simpa using hs⟩
theorem Shaped.setCells {g cap : Nat} {e : TypeId} (vs : List Value) : ∀ (o : Nat) {w : World}, Shaped w g cap e → Shaped (w.setCells g o vs) g cap e := by
  induction vs with
  | nil => intro o w h; exact h
  | cons v vs ih => intro o w h; rw [World.setCells]; exact ih (o + 1) (h.setCell o v)
theorem Shaped.drewN {w : World} {g cap : Nat} {e : TypeId} (h : Shaped w g cap e) (n : Nat) : Shaped (w.drewN n) g cap e := h
theorem Shaped.shape {w : World} {g cap : Nat} {e : TypeId} (h : Shaped w g cap e) : w.shape? g = some (e, cap) := by
  obtain ⟨cur, h, hs⟩ := h
  simp [World.shape?, h, hs]
theorem Shaped.own {w : World} {g cap n base : Nat} {e : TypeId} {xs : List Value} (h : Shaped w g cap e) (hb : base ≤ g) (hn : n ≤ cap) (hm : cap ≤ maxLen) (hl : xs.length = n) (hc : ∀ i, i < n → w.cell? ⟨g, i, none⟩ = xs[i]?) :
    w.ownsRow base e 1 (.slice (some ⟨g, 0, none⟩) n cap) n xs := by
  obtain ⟨cur, h, hs⟩ := h
  refine ⟨by omega, .inr ⟨g, cap, cur, rfl, hb, h, hn, hm, by omega, ?_⟩⟩
  rw [Nat.mul_one]
  apply List.ext_getElem?
  intro i
  by_cases hi : i < n
  · rw [List.getElem?_take, if_pos hi, ← hc i hi, cell_of_row w g i cur e (0, 0) h]; simp
  · rw [List.getElem?_eq_none (by simp; omega), List.getElem?_eq_none (by omega)]
theorem own_shape {w : World} {base n : Nat} {e : TypeId} {v : Value} {xs : List Value} (h : w.ownsRow base e 1 v n xs) :
    (v = .slice none 0 0 ∧ n = 0 ∧ xs = []) ∨ ∃ g cap, v = .slice (some ⟨g, 0, none⟩) n cap ∧ base ≤ g ∧ Shaped w g cap e ∧ n ≤ cap ∧ cap ≤ maxLen ∧ xs.length = n ∧ ∀ i, i < n → w.cell? ⟨g, i, none⟩ = xs[i]? := by
  have hl := h.1
  rcases h.2 with ⟨rfl, rfl⟩ | ⟨g, cap, cur, rfl, hb, hg, hn, hm, hcs, ht⟩
  · exact .inl ⟨rfl, rfl, List.eq_nil_of_length_eq_zero (by omega)⟩
  · refine .inr ⟨g, cap, rfl, hb, ⟨cur, hg, by omega⟩, hn, hm, by omega, fun i hi => ?_⟩
    rw [cell_of_row w g i cur e (0, 0) hg, ← ht, List.getElem?_take, if_pos (by omega)]
    simp

theorem own_new (w : World) (cs : Array Value) (C n base : Nat) (e : TypeId) (xs : List Value) (hs : cs.size = C) (hn : n ≤ C) (hC : C ≤ maxLen) (hb : base ≤ w.heap.size) (hl : xs.length = n) (hc : ∀ i, i < n → cs[i]? = xs[i]?) :
    (w.drew.alloc (.cells cs e)).ownsRow base e 1 (.slice (some ⟨w.heap.size, 0, none⟩) n C) n xs :=
  Shaped.own ⟨cs, heap_alloc_new w.drew _, hs⟩ hb hn hC hl (fun i hi => by
    have := cell_of_row (w.drew.alloc (.cells cs e)) w.heap.size i cs e (0, 0) (heap_alloc_new w.drew _)
    rw [this]; exact hc i hi)

theorem zero_cells_int (n : Nat) : (Builtin.zeroCells (Value.int .i64 0).cells n).size = n := by simp [Builtin.zeroCells, Value.cells]

theorem one_int (l : List Int) : ∀ v ∈ l.map (Value.int .i64), v.oneCell' = true := by
  intro v hv
  obtain ⟨x, _, rfl⟩ := List.mem_map.1 hv
  rfl

/-- A row of numbers of the call's own. -/
abbrev RowI (w : World) (base : Nat) (v : Value) (l : List Int) : Prop := w.ownsRow base 3 1 v l.length (l.map (Value.int .i64))

/-- What a call that hands a row on, turned, has done: the row is where it was or in a new block, and no other block has turned. -/
def RowPost (w : World) (base : Nat) (v : Value) (l : List Int) (e : Ending) (w' : World) : Prop :=
  ∃ v', e = .returned v' ∧ RowI w' base v' l ∧ Turn (fun k => v.ownBlock = some k) w w' ∧ (v'.ownBlock = v.ownBlock ∨ ∃ g, v'.ownBlock = some g ∧ w.heap.size ≤ g)

/-- Delete(row, 0, 1) of a row that has a first. -/
theorem delete_first (w : World) (base : Nat) (v : Value) (x : Int) (l : List Int) (h : RowI w base v (x :: l)) :
    Calls Try.prog 38 #[v, .int .i64 0, .int .i64 1] w (RowPost w base v l) := by
  rcases own_shape h with ⟨_, h0, _⟩ | ⟨g, cap, rfl, hb, hs, hn, hm, hl, hc⟩
  · simp at h0
  have hm' : cap ≤ 9223372036854775807 := by simpa [maxLen] using hm
  have e1 : (x :: l).length = l.length + 1 := rfl
  have H := Any.slices_Delete_int_cells Try.laysNm223 g 0 (x :: l).length cap 0 1 (x :: l) w (Nat.le_refl _) hn hm' (by omega) (by omega) (fun j hj => by
      rw [Nat.zero_add, hc j hj, getElem?_map_int _ _ hj]) (fun j _ => by rw [Nat.zero_add]; exact hs.free j)
  refine Calls.mono H ?_
  rintro e w' ⟨rfl, q, rfl⟩
  have hs2 : Shaped ((w.drewN q).setCells g 0 ((((x :: l).take (x :: l).length).take 0 ++ ((x :: l).take (x :: l).length).drop 1 ++ List.replicate (1 - 0) 0).map (Value.int .i64))) g cap 3 := (hs.drewN q).setCells _ 0
  refine ⟨.slice (some ⟨g, 0, none⟩) l.length cap, by simp, ?_, ((Turn.refl _ w).drewN q).setCells _ 0 (.inl rfl), .inl rfl⟩
  refine hs2.own hb (by simp at hn; omega) hm (by simp) (fun i hi => ?_)
  have hin := World.cell?_setCells_in g ((((x :: l).take (x :: l).length).take 0 ++ ((x :: l).take (x :: l).length).drop 1 ++ List.replicate (1 - 0) 0).map (Value.int .i64)) 0 (w.drewN q) (fun j hj => by
    rw [Nat.zero_add]; exact (hs.drewN q).is (by simp at hj; simp at hn; omega)) i (by simp; omega)
  rw [Nat.zero_add] at hin
  rw [hin]
  simp [hi]

/-- Insert(row, 0, x): x lies in a block of its own. -/
theorem insert_front (w : World) (base vb : Nat) (v : Value) (x : Int) (l : List Int) (h : RowI w base v l) (hx : Blk w vb [.int .i64 x] 3) (hne : v.ownBlock ≠ some vb) (hl : l.length ≤ 1000000) (hbase : base ≤ w.heap.size) :
    Calls Try.prog 52 #[v, .int .i64 0, .slice (some ⟨vb, 0, none⟩) 1 1] w (RowPost w base v (x :: l)) := by
  have hxc : ∀ j u, [Value.int .i64 x][j]? = some u → w.cell? ⟨vb, 0 + j, none⟩ = some u := fun j u hj => by rw [Nat.zero_add, hx.cell]; exact hj
  have h1v : ∀ u ∈ [Value.int .i64 x], u.oneCell' = true := by intro u hu; simp at hu; subst hu; rfl
  have hsa : w.shape? vb = some (3, 1) := by unfold Blk at hx; simp [World.shape?, hx]
  rcases own_shape h with ⟨rfl, h0, hnil⟩ | ⟨g, cap, rfl, hb, hs, hn, hm, hle, hc⟩
  · have hl0 : l = [] := by simpa using hnil
    subst hl0
    have H := Any2.slices_Insert_int_end_grow Try.laysNm221 none 0 0 vb 0 1 1 [] [.int .i64 x] w (by omega) (by omega) (by omega) (by omega) rfl rfl (fun _ => rfl) (fun a ha => by cases ha) hxc h1v
    refine Calls.mono H ?_
    rintro e w' ⟨rfl, rfl⟩
    refine ⟨_, rfl, ?_, (((Turn.refl _ w).drew).alloc _), .inr ⟨_, rfl, Nat.le_refl _⟩⟩
    have hcap : 1 ≤ grownCap w (0 + 1) 0 (Try.laysNm221_ren.t 3) := grownCap_ge w _ _ _
    have hcm : grownCap w (0 + 1) 0 (Try.laysNm221_ren.t 3) ≤ maxLen := grownCap_le_maxLen w _ _ _ (by unfold maxLen; omega)
    generalize grownCap w (0 + 1) 0 (Try.laysNm221_ren.t 3) = C at hcap hcm
    refine own_new w _ C 1 base 3 [Value.int .i64 x] ?_ hcap hcm hbase rfl (fun i hi => ?_)
    · rw [Array.size_append, zero_cells_int]; simp; omega
    · obtain rfl : i = 0 := by omega
      simp [Array.getElem?_append]
  · have hm' : cap ≤ 9223372036854775807 := by simpa [maxLen] using hm
    have hmx : 9223372036854775807 ≤ maxLen := by simp [maxLen]
    have hvg : vb ≠ g := fun e => hne (by simp [Value.ownBlock, e])
    have hlen : (l.map (Value.int .i64)).length = l.length := by simp
    by_cases hroom : l.length + 1 ≤ cap
    · by_cases h0 : l.length = 0
      · have hl0 : l = [] := List.eq_nil_of_length_eq_zero h0
        subst hl0
        have H := Any2.slices_Insert_int_end_room Try.laysNm221 g 0 0 cap vb 0 1 1 [.int .i64 x] w (by omega) (by simpa using hroom) hm' rfl (fun j hj => by rw [show 0 + 0 + j = j by omega]; exact hs.is (by simp at hroom; omega)) (fun j _ => hs.free _) hxc h1v
        refine Calls.mono H ?_
        rintro e w' ⟨rfl, rfl⟩
        refine ⟨_, rfl, ?_, (Turn.refl _ w).setCells _ _ (.inl rfl), .inl rfl⟩
        refine (hs.setCells _ _).own (n := 1) (xs := [Value.int .i64 x]) hb (by simpa using hroom) hm rfl (fun i hi => ?_)
        have hin := World.cell?_setCells_in g [Value.int .i64 x] (0 + 0) w (fun j hj => by simp at hj; subst hj; exact hs.is (by simp at hroom; omega)) i (by simpa using hi)
        rw [show 0 + 0 + i = i by omega] at hin
        rw [hin]
        obtain rfl : i = 0 := by simp at hi; omega
        rfl
      · have H := Any2.slices_Insert_int_shift Try.laysNm221 g 0 l.length cap 0 vb 0 1 1 (l.map (Value.int .i64)) [.int .i64 x] w (by omega) (by omega) hroom hm' hvg hlen rfl
          (fun j u hj => by rw [Nat.zero_add]; have hjl : j < l.length := by have := (List.getElem?_eq_some_iff.1 hj).1; simpa using this
                            rw [hc j hjl]; exact hj) (fun j hj => by rw [Nat.zero_add]; exact hs.is (by omega)) (fun j _ => hs.free _) hxc (one_int l) h1v 3 3 1 cap hsa hs.shape (by omega) (hx.free 0) (hx.free 1)
        refine Calls.mono H ?_
        rintro e w' ⟨rfl, rfl⟩
        refine ⟨_, rfl, ?_, Turn.setCells (b := g) _ _ (Turn.setCells (b := g) _ _ ((Turn.refl _ w).drew) (.inl rfl)) (.inl rfl), .inl rfl⟩
        have hs1 : Shaped (w.drew.setCells g (0 + (0 + 1)) ((l.map (Value.int .i64)).drop 0)) g cap 3 := Shaped.setCells _ _ (show Shaped w.drew g cap 3 from hs)
        refine (hs1.setCells _ _).own hb (by simpa using hroom) hm (by simp) (fun i hi => ?_)
        by_cases hi0 : i = 0
        · subst hi0
          have hin := World.cell?_setCells_in g [Value.int .i64 x] (0 + 0) (w.drew.setCells g (0 + (0 + 1)) ((l.map (Value.int .i64)).drop 0)) (fun j hj => by simp at hj; subst hj; exact hs1.is (by omega)) 0 (by simp)
          simpa using hin
        · rw [World.cell?_setCells_out g _ _ _ _ (fun _ _ => Or.inr (by simp; omega))]
          have hin := World.cell?_setCells_in g ((l.map (Value.int .i64)).drop 0) (0 + (0 + 1)) w.drew (fun j hj => by simp at hj; exact hs.is (by omega)) (i - 1) (by simp at hi ⊢; omega)
          rw [show 0 + (0 + 1) + (i - 1) = i by omega] at hin
          rw [hin]
          obtain ⟨k, rfl⟩ : ∃ k, i = k + 1 := ⟨i - 1, by omega⟩
          have hk : k < l.length := by omega
          simp [List.getElem?_eq_getElem hk]
    · have hcl : cap = l.length := by omega
      by_cases h0 : l.length = 0
      · have hl0 : l = [] := List.eq_nil_of_length_eq_zero h0
        subst hl0
        have H := Any2.slices_Insert_int_end_grow Try.laysNm221 (some ⟨g, 0, none⟩) 0 cap vb 0 1 1 [] [.int .i64 x] w (by omega) (by omega) (by simp at hcl; omega) (by omega) rfl rfl (fun _ => rfl) (fun a _ j u hj => by simp at hj) hxc h1v
        refine Calls.mono H ?_
        rintro e w' ⟨rfl, rfl⟩
        refine ⟨_, rfl, ?_, (((Turn.refl _ w).drew).alloc _), .inr ⟨_, rfl, Nat.le_refl _⟩⟩
        have hcap : 1 ≤ grownCap w (0 + 1) cap (Try.laysNm221_ren.t 3) := grownCap_ge w _ _ _
        have hcm : grownCap w (0 + 1) cap (Try.laysNm221_ren.t 3) ≤ maxLen := grownCap_le_maxLen w _ _ _ (by unfold maxLen; omega)
        generalize grownCap w (0 + 1) cap (Try.laysNm221_ren.t 3) = C at hcap hcm
        refine own_new w _ C 1 base 3 [Value.int .i64 x] ?_ hcap hcm hbase rfl (fun i hi => ?_)
        · rw [Array.size_append, zero_cells_int]; simp; omega
        · obtain rfl : i = 0 := by omega
          simp [Array.getElem?_append]
      · have H := Any2.slices_Insert_int_grow Try.laysNm221 g 0 l.length cap 0 vb 0 1 1 (l.map (Value.int .i64)) [.int .i64 x] w (by omega) (by omega) (by omega) (by omega) (by omega) hlen rfl
          (fun j u hj => by rw [Nat.zero_add]; have hjl : j < l.length := by have := (List.getElem?_eq_some_iff.1 hj).1; simpa using this
                            rw [hc j hjl]; exact hj) hxc (one_int l) h1v
        refine Calls.mono H ?_
        rintro e w' ⟨rfl, rfl⟩
        have hcap : l.length + 1 ≤ grownCap w (l.length + 1) cap (Try.laysNm221_ren.t 3) := grownCap_ge w _ _ _
        have hcm : grownCap w (l.length + 1) cap (Try.laysNm221_ren.t 3) ≤ maxLen := grownCap_le_maxLen w _ _ _ (by unfold maxLen; omega)
        generalize grownCap w (l.length + 1) cap (Try.laysNm221_ren.t 3) = C at hcap hcm
        refine ⟨_, rfl, ?_, ((((Turn.refl _ w).alloc _).drew.setCells _ _ (.inr (Nat.le_refl _))).drew.setCells _ _ (.inr (Nat.le_refl _))), .inr ⟨_, rfl, Nat.le_refl _⟩⟩
        obtain ⟨cs, hcs, hcsz⟩ : ∃ cs : Array Value, cs = (((l.map (Value.int .i64)).take 0).toArray ++ Builtin.zeroCells (Value.int .i64 0).cells (l.length + 1 - 0) ++ Builtin.zeroCells (Value.int .i64 0).cells (C - (l.length + 1))) ∧ cs.size = C := ⟨_, rfl, by simp [Builtin.zeroCells, Value.cells]; omega⟩
        rw [← hcs]
        have s0 : Shaped (w.alloc (.cells cs 3)).drew w.heap.size C 3 := ⟨cs, heap_alloc_new w _, hcsz⟩
        have s1 := s0.setCells [Value.int .i64 x] 0
        have s2 : Shaped (((w.alloc (.cells cs 3)).drew.setCells w.heap.size 0 [Value.int .i64 x]).drew) w.heap.size C 3 := s1
        refine (s2.setCells _ _).own hbase hcap hcm (by simp) (fun i hi => ?_)
        by_cases hi0 : i = 0
        · subst hi0
          rw [World.cell?_setCells_out w.heap.size _ _ _ _ (fun _ _ => Or.inl (by show 0 < 0 + 1; omega))]
          have hin := World.cell?_setCells_in w.heap.size [Value.int .i64 x] 0 (w.alloc (.cells cs 3)).drew (fun j hj => by simp at hj; subst hj; exact s0.is (by omega)) 0 (by simp)
          exact hin
        · have hin := World.cell?_setCells_in w.heap.size ((l.map (Value.int .i64)).drop 0) (0 + 1) (((w.alloc (.cells cs 3)).drew.setCells w.heap.size 0 [Value.int .i64 x]).drew) (fun j hj => s2.is (by have := hj; rw [List.drop_zero, List.length_map] at this; omega)) (i - 1) (by simp at hi ⊢; omega)
          rw [show 0 + 1 + (i - 1) = i by omega] at hin
          refine hin.trans ?_
          obtain ⟨k, rfl⟩ : ∃ k, i = k + 1 := ⟨i - 1, by omega⟩
          have hk : k < l.length := by omega
          simp [List.getElem?_eq_getElem hk]

end Go.Proofs.Ytccadafajocbgaa
