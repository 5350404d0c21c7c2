/- PoolKeeps, plain: no block is taken twice, or lost. -/
import Derived.Test.YtccadafajocbgaaPoolS
open Go Go.RowKit
namespace Go.Proofs.Ytccadafajocbgaa

theorem nodup_sub_le : ∀ (a b : List Int), a.Nodup → (∀ x ∈ a, x ∈ b) → a.length ≤ b.length
  | [], _, _, _ => Nat.zero_le _
  | x :: a, b, hn, h => by
    have hx := h x (by simp)
    have h2 := nodup_sub_le a (b.erase x) (List.nodup_cons.1 hn).2 (fun y hy => (List.mem_erase_of_ne (show y ≠ x from fun e => by subst e; exact (List.nodup_cons.1 hn).1 hy)).2 (h y (by simp [hy])))
    rw [List.length_erase_of_mem hx] at h2
    have := List.length_pos_of_mem hx
    simp; omega
theorem nodup_same_len {a b : List Int} (ha : a.Nodup) (hb : b.Nodup) (h : ∀ x, x ∈ a ↔ x ∈ b) : a.length = b.length :=
  Nat.le_antisymm (nodup_sub_le a b ha (fun x hx => (h x).1 hx)) (nodup_sub_le b a hb (fun x hx => (h x).2 hx))

/-- The blocks are those of the shape. -/
structure KB (s : Shp) (base : Nat) (S : PS) : Prop where
  ok : S.Ok
  W : S.W = s.W
  N : S.blks.length = s.off 3
  info : ∀ x, S.there x → (S.blk x).pos = (s.place base (x - 1).toNat).pos ∧ (S.blk x).size = (s.place base (x - 1).toNat).size ∧ (S.blk x).owner = (s.place base (x - 1).toNat).owner ∧ (S.blk x).cls = (s.place base (x - 1).toNat).cls

section
variable {s : Shp} {base : Nat} {S : PS}

theorem KB.start (h : s.Right) (hb : base + s.ws 3 ≤ 65536) : KB s base (s.at_ base (s.off 3)) :=
  ⟨Shp.made_ok h hb, rfl, by show ((List.range _).map _).length = _; simp, fun x hx => by
    have := Shp.at_there.1 hx
    rw [Shp.at_blk this.1 this.2]; exact ⟨rfl, rfl, rfl, rfl⟩⟩
theorem KB.there (h : KB s base S) {x : Int} : S.there x ↔ 1 ≤ x ∧ x ≤ s.off 3 := by unfold PS.there; rw [h.N]
theorem KB.setTaken (h : KB s base S) {S' : PS} {x : Int} (hx : S.there x) {t : Bool} (ok' : S'.Ok) (hW : S'.W = S.W) (hb : S'.blks = (S.setTaken x t).blks) : KB s base S' := by
  have hth : ∀ y, S'.there y ↔ S.there y := fun y => by unfold PS.there; rw [hb, PS.setTaken_len]
  have hbk : ∀ y, S'.blk y = (S.setTaken x t).blk y := fun y => by unfold PS.blk; rw [hb]
  refine ⟨ok', hW.trans h.W, by rw [hb, PS.setTaken_len]; exact h.N, fun y hy => ?_⟩
  have hy := (hth y).1 hy
  rw [hbk, (PS.setTaken_place t hx hy.1).1, (PS.setTaken_place t hx hy.1).2.1, (PS.setTaken_place t hx hy.1).2.2.1, (PS.setTaken_place t hx hy.1).2.2.2]
  exact h.info y hy
theorem KB.same (h : KB s base S) {S' : PS} (ok' : S'.Ok) (hW : S'.W = S.W) (hb : S'.blks = S.blks) : KB s base S' := by
  have hth : ∀ y, S'.there y ↔ S.there y := fun y => by unfold PS.there; rw [hb]
  have hbk : ∀ y, S'.blk y = S.blk y := fun y => by unfold PS.blk; rw [hb]
  exact ⟨ok', hW.trans h.W, by rw [hb]; exact h.N, fun y hy => by rw [hbk]; exact h.info y ((hth y).1 hy)⟩

/-- What a Take does, in cases. -/
theorem take_cases (h : S.Ok) (v c : Int) : ((S.takeR v c).2 ≠ 0 ∧ S.takeS v c = S) ∨
    ∃ x l k, S.takeR v c = (x, 0) ∧ k = v.toNat * 4 + c.toNat ∧ k < 4 * S.W ∧ S.row k = x :: l ∧ S.takeS v c = (S.setRow k l).setTaken x true ∧ S.there x ∧ (S.blk x).taken = false ∧ (S.takeS v c).Ok ∧ 0 ≤ v ∧ v < S.W ∧ 0 ≤ c ∧ c < 3 := by
  unfold PS.takeR PS.takeS
  by_cases ho : v < 0 ∨ S.W ≤ v ∨ c < 0 ∨ 3 ≤ c
  · rw [if_pos ho, if_pos ho]; exact .inl ⟨by simp, rfl⟩
  · rw [if_neg ho, if_neg ho]
    cases hr : S.row (v.toNat * 4 + c.toNat) with
    | nil => exact .inl ⟨by simp, rfl⟩
    | cons x l =>
      have hk : v.toNat * 4 + c.toNat < 4 * S.W := by omega
      obtain ⟨hx, ht, -⟩ := h.mem _ hk x (by rw [hr]; simp)
      exact .inr ⟨x, l, _, rfl, rfl, hk, hr, rfl, hx, ht, h.pull hk hr, by omega, by omega, by omega, by omega⟩
theorem give_cases (h : S.Ok) (v x : Int) : ((S.giveR v x) ≠ 0 ∧ S.giveS v x = S) ∨
    (S.giveR v x = 0 ∧ 0 ≤ v ∧ v < S.W ∧ S.there x ∧ (S.blk x).taken = true ∧ (S.giveS v x).Ok ∧ (S.giveS v x).W = S.W ∧ (S.giveS v x).blks = (S.setTaken x false).blks) := by
  unfold PS.giveR PS.giveS
  by_cases h1 : v < 0 ∨ S.W ≤ v
  · rw [if_pos h1, if_pos h1]; exact .inl ⟨by simp, rfl⟩
  · rw [if_neg h1, if_neg h1]
    by_cases h2 : x < 1 ∨ S.blks.length < x
    · rw [if_pos h2, if_pos h2]; exact .inl ⟨by simp, rfl⟩
    · rw [if_neg h2, if_neg h2]
      by_cases h3 : (S.blk x).taken = false
      · rw [if_pos h3, if_pos h3]; exact .inl ⟨by simp, rfl⟩
      · rw [if_neg h3, if_neg h3]
        have hx : S.there x := ⟨by omega, by omega⟩
        have ht : (S.blk x).taken = true := by simpa using h3
        have hbut := h.give hx ht
        have hx' : (S.setTaken x false).there x := PS.setTaken_there.2 hx
        have e1 := PS.setTaken_home false hx hx.1
        have e2 := PS.setTaken_far false hx hx.1
        have hlt := hbut.home_lt hx'
        rw [e1, e2] at hlt
        refine .inr ⟨rfl, by omega, by omega, hx, ht, ?_, by split <;> rfl, by split <;> rfl⟩
        split
        · refine ((hbut.put (k := S.home x) (.inl e1.symm) (l' := x :: S.row (S.home x)) (fun y => by simp [PS.setTaken]) (List.nodup_cons.2 ⟨fun hm => ?_, h.nodup _ hlt.1⟩)).ok)
          exact (hbut.mem _ hlt.1 x hm).2.2.2 (by simp)
        · refine ((hbut.put (k := S.far x) (.inr e2.symm) (l' := S.row (S.far x) ++ [x]) (fun y => by simp [PS.setTaken, or_comm]) (List.nodup_append.2 ⟨h.nodup _ hlt.2.1, by simp, fun a ha b hb e => ?_⟩)).ok)
          simp at hb
          subst hb; subst e
          exact (hbut.mem _ hlt.2.1 a ha).2.2.2 (by simp)
theorem drain_cases (h : S.Ok) (v : Int) : (S.drain v).2.Ok ∧ (S.drain v).2.W = S.W ∧ (S.drain v).2.blks = S.blks := by
  unfold PS.drain
  by_cases h1 : v < 0 ∨ S.W ≤ v
  · rw [if_pos h1]; exact ⟨h, rfl, rfl⟩
  · rw [if_neg h1]
    exact ⟨h.drain (by omega), (PS.homeAll_same _ S).1, (PS.homeAll_same _ S).2⟩

/-- What the law keeps of which are taken. -/
structure KT (s : Shp) (base : Nat) (S : PS) (tk : List Bool) : Prop extends KB s base S where
  flag : ∀ x, S.there x → (S.blk x).taken = tk.getD x.toNat false
  len : tk.length = s.off 3 + 1

theorem set_getD {tk : List Bool} {x y : Int} {t : Bool} (hx : 1 ≤ x) (hxl : x.toNat < tk.length) (hy : 1 ≤ y) : (tk.set x.toNat t).getD y.toNat false = if y = x then t else tk.getD y.toNat false := by
  rw [List.getD_eq_getElem?_getD, List.getElem?_set]
  by_cases e : y = x
  · subst e; rw [if_pos rfl, if_pos hxl, if_pos rfl]; rfl
  · rw [if_neg (by omega), if_neg e, ← List.getD_eq_getElem?_getD]

theorem KT.turned {tk : List Bool} (h : KT s base S tk) {S' : PS} {x : Int} (hx : S.there x) {t : Bool} (ok' : S'.Ok) (hW : S'.W = S.W) (hb : S'.blks = (S.setTaken x t).blks) : KT s base S' (tk.set x.toNat t) := by
  have hth : ∀ y, S'.there y ↔ S.there y := fun y => by unfold PS.there; rw [hb, PS.setTaken_len]
  have hbk : ∀ y, S'.blk y = (S.setTaken x t).blk y := fun y => by unfold PS.blk; rw [hb]
  have hx2 := h.there.1 hx
  refine ⟨h.toKB.setTaken hx ok' hW hb, fun y hy => ?_, by rw [List.length_set]; exact h.len⟩
  have hy := (hth y).1 hy
  rw [hbk, PS.setTaken_taken t hx hy.1, set_getD hx.1 (by rw [h.len]; omega) hy.1, h.flag y hy]
theorem KT.take {tk : List Bool} (h : KT s base S tk) (v c : Int) : ((S.takeR v c).2 ≠ 0 ∧ KT s base (S.takeS v c) tk) ∨
    ∃ x, S.takeR v c = (x, 0) ∧ 1 ≤ x ∧ x ≤ s.off 3 ∧ tk.getD x.toNat false = false ∧ KT s base (S.takeS v c) (tk.set x.toNat true) := by
  rcases take_cases h.ok v c with ⟨e1, e2⟩ | ⟨x, l, k, e1, -, -, -, e2, hx, ht, ok', -⟩
  · exact .inl ⟨e1, by rw [e2]; exact h⟩
  · have hx2 := h.there.1 hx
    exact .inr ⟨x, e1, hx2.1, hx2.2, by rw [← h.flag x hx]; exact ht, h.turned hx ok' (by rw [e2]; rfl) (by rw [e2]; rfl)⟩
theorem KT.give {tk : List Bool} (h : KT s base S tk) {v x : Int} (hv : 0 ≤ v ∧ v < s.W) (hx : 1 ≤ x ∧ x ≤ s.off 3) (ht : tk.getD x.toNat false = true) : S.giveR v x = 0 ∧ KT s base (S.giveS v x) (tk.set x.toNat false) := by
  have hth := h.there.2 hx
  have htk : (S.blk x).taken = true := by rw [h.flag x hth]; exact ht
  rcases give_cases h.ok v x with ⟨e1, -⟩ | ⟨e1, -, -, -, -, ok', hW, hb⟩
  · exfalso
    apply e1
    unfold PS.giveR
    rw [if_neg (by rw [h.W]; omega), if_neg (by rw [h.N]; omega), if_neg (by rw [htk]; simp)]
  · exact ⟨e1, h.turned hth ok' hW hb⟩
theorem KT.drain {tk : List Bool} (h : KT s base S tk) (v : Int) : KT s base (S.drain v).2 tk := by
  obtain ⟨ok', hW, hb⟩ := drain_cases h.ok v
  have hth : ∀ y, (S.drain v).2.there y ↔ S.there y := fun y => by unfold PS.there; rw [hb]
  have hbk : ∀ y, (S.drain v).2.blk y = S.blk y := fun y => by unfold PS.blk; rw [hb]
  exact ⟨h.toKB.same ok' hW hb, fun y hy => by rw [hbk]; exact h.flag y ((hth y).1 hy), h.len⟩

/-- All up to j are given back. -/
structure KG (s : Shp) (base : Nat) (S : PS) (tk : List Bool) (j : Nat) : Prop extends KB s base S where
  flag : ∀ x, S.there x → (S.blk x).taken = (tk.getD x.toNat false && decide ((j : Int) < x))
theorem KT.gives {tk : List Bool} (h : KT s base S tk) : KG s base S tk 0 := ⟨h.toKB, fun x hx => by rw [h.flag x hx]; have := hx.1; simp; intro _; omega⟩
theorem KG.give {tk : List Bool} {j : Nat} (h : KG s base S tk j) (hW : 1 ≤ s.W) (hj : j < s.off 3) :
    ((S.giveR 0 ((j : Int) + 1) == 0) = tk.getD (j + 1) false) ∧ KG s base (S.giveS 0 ((j : Int) + 1)) tk (j + 1) := by
  have hx : S.there ((j : Int) + 1) := h.there.2 ⟨by omega, by omega⟩
  have hf := h.flag _ hx
  rw [show ((j : Int) + 1).toNat = j + 1 by omega, decide_eq_true (show (j : Int) < (j : Int) + 1 by omega), Bool.and_true] at hf
  rcases give_cases h.ok 0 ((j : Int) + 1) with ⟨e1, e2⟩ | ⟨e1, -, -, -, ht, ok', hWW, hb⟩
  · have hnt : (S.blk ((j : Int) + 1)).taken = false := by
      cases hq : (S.blk ((j : Int) + 1)).taken with
      | false => rfl
      | true =>
        exfalso; apply e1
        unfold PS.giveR
        rw [if_neg (by rw [h.W]; omega), if_neg (by rw [h.N]; omega), if_neg (by rw [hq]; simp)]
    rw [hnt] at hf
    refine ⟨by rw [← hf]; simpa using e1, ?_⟩
    rw [e2]
    refine ⟨h.toKB, fun x hx2 => ?_⟩
    rw [h.flag x hx2]
    by_cases e : x = (j : Int) + 1
    · subst e
      rw [show ((j : Int) + 1).toNat = j + 1 by omega, ← hf]; simp
    · congr 1
      congr 1
      apply propext
      omega
  · rw [ht] at hf
    refine ⟨by rw [← hf, e1]; rfl, ⟨h.toKB.setTaken hx ok' hWW hb, fun x hx2 => ?_⟩⟩
    have hth : ∀ y, (S.giveS 0 ((j : Int) + 1)).there y ↔ S.there y := fun y => by unfold PS.there; rw [hb, PS.setTaken_len]
    have hbk : ∀ y, (S.giveS 0 ((j : Int) + 1)).blk y = (S.setTaken ((j : Int) + 1) false).blk y := fun y => by unfold PS.blk; rw [hb]
    have hx3 := (hth x).1 hx2
    rw [hbk, PS.setTaken_taken false hx hx3.1]
    split
    · rename_i e; subst e; simp
    · rename_i e
      rw [h.flag x hx3]
      congr 1
      congr 1
      apply propext
      omega

/-- None is taken; the first v workers have drained. -/
structure KD (s : Shp) (base : Nat) (S : PS) (v : Nat) : Prop extends KB s base S where
  flag : ∀ x, S.there x → (S.blk x).taken = false
  far : ∀ u, u < v → S.row (4 * u + 3) = []
theorem KG.drains {tk : List Bool} (h : KG s base S tk (s.off 3)) : KD s base S 0 :=
  ⟨h.toKB, fun x hx => by rw [h.flag x hx]; have := (h.there.1 hx).2; simp; omega, fun u hu => by omega⟩
theorem KD.drain {v : Nat} (h : KD s base S v) (hv : v < s.W) : KD s base (S.drain v).2 (v + 1) := by
  obtain ⟨ok', hW, hb⟩ := drain_cases h.ok v
  have hth : ∀ y, (S.drain v).2.there y ↔ S.there y := fun y => by unfold PS.there; rw [hb]
  have hbk : ∀ y, (S.drain v).2.blk y = S.blk y := fun y => by unfold PS.blk; rw [hb]
  refine ⟨h.toKB.same ok' hW hb, fun x hx => by rw [hbk]; exact h.flag x ((hth x).1 hx), fun u hu => ?_⟩
  have e : (S.drain v).2 = S.drainS v := by
    unfold PS.drain; rw [if_neg (by rw [h.W]; omega), Int.toNat_natCast]
  rw [e]
  show (if 4 * u + 3 = 4 * v + 3 then [] else (S.homeAll (S.row (4 * v + 3))).row (4 * u + 3)) = []
  by_cases e2 : u = v
  · rw [if_pos (by omega)]
  · rw [if_neg (by omega), PS.homeAll_far _ _ _ (fun x hx => ?_)]
    · exact h.far u (by omega)
    · have h1 := h.ok.mem _ (by rw [h.W]; omega) x hx
      have h2 := h.ok.place x h1.1
      unfold PS.home
      omega
theorem KD.home (h : KD s base S s.W) : S.isHome := ⟨h.flag, fun v hv => h.far v (by rw [← h.W]; exact hv)⟩

/-- The rows from place q on (3 w + c) are whole. -/
structure KW (s : Shp) (base : Nat) (S : PS) (q : Nat) : Prop extends KB s base S where
  len : ∀ w c, w < s.W → c < 3 → q ≤ 3 * w + c → (S.row (4 * w + c)).length = s.n c
theorem KD.takes (h : KD s base S s.W) : KW s base S 0 := by
  refine ⟨h.toKB, fun w c hw hc _ => ?_⟩
  have hk : 4 * w + c < 4 * S.W := by rw [h.W]; omega
  have e := nodup_same_len (a := S.row (4 * w + c)) (b := (List.range' (s.beg w c) (s.n c)).map fun (j : Nat) => (j : Int) + 1) (h.ok.nodup _ hk) (List.Pairwise.map _ (fun a b (h : a ≠ b) e => h (by omega)) (List.nodup_range' (s := _) (n := _))) (fun x => ?_)
  · rw [e]; simp
  · have hbi := s.beg_in (w := w) (c := c) hw
    have hmm := s.off_mono (show c + 1 ≤ 3 by omega)
    constructor
    · intro hx
      obtain ⟨h1, h2, h3⟩ := h.ok.mem _ hk x hx
      have h4 := h.ok.place x h1
      have h5 : (S.blk x).owner = w ∧ (S.blk x).cls = c := by unfold PS.home PS.far at h3; omega
      have h6 := h.there.1 h1
      obtain ⟨w', c', i, hw', hc', hi, ee⟩ := Shp.split (s := s) (j := (x - 1).toNat) (by omega)
      have h7 := h.info x h1
      rw [ee, Shp.place_at hw' hc' hi] at h7
      obtain rfl : w' = w := by have := h7.2.2.1; simp only at this; omega
      obtain rfl : c' = c := by have := h7.2.2.2; simp only at this; omega
      rw [List.mem_map]
      exact ⟨s.beg w' c' + i, by rw [List.mem_range'_1]; omega, by omega⟩
    · intro hx
      rw [List.mem_map] at hx
      obtain ⟨j, hj, rfl⟩ := hx
      rw [List.mem_range'_1] at hj
      have h1 : S.there ((j : Int) + 1) := h.there.2 ⟨by omega, by omega⟩
      have h7 := h.info _ h1
      rw [show ((j : Int) + 1 - 1).toNat = s.beg w c + (j - s.beg w c) by omega, Shp.place_at hw hc (by omega)] at h7
      have h8 : S.home ((j : Int) + 1) = 4 * w + c := by unfold PS.home; rw [h7.2.2.1, h7.2.2.2]
      have h9 : S.far ((j : Int) + 1) = 4 * w + 3 := by unfold PS.far; rw [h7.2.2.1]
      rcases h.ok.all _ h1 (h.flag _ h1) with q | q
      · rw [h8] at q; exact q
      · rw [h9, h.far w hw] at q; simp at q

/-- Behind i takes of a row. -/
structure KR (s : Shp) (base : Nat) (S : PS) (w c i : Nat) : Prop extends KB s base S where
  later : ∀ w' c', w' < s.W → c' < 3 → 3 * w + c < 3 * w' + c' → (S.row (4 * w' + c')).length = s.n c'
  now : (S.row (4 * w + c)).length + i = s.n c
theorem KW.row {q w c : Nat} (h : KW s base S q) (hq : q = 3 * w + c) (hw : w < s.W) (hc : c < 3) : KR s base S w c 0 :=
  ⟨h.toKB, fun w' c' h1 h2 h3 => h.len w' c' h1 h2 (by omega), h.len w c hw hc (by omega)⟩
theorem KR.take {w c i : Nat} (h : KR s base S w c i) (hw : w < s.W) (hc : c < 3) (hi : i < s.n c) :
    ∃ x, S.takeR w c = (x, 0) ∧ (S.takeS w c).whereV x = #[.int .i64 (S.blk x).pos, .int .i64 (S.blk x).size, .int .i64 w, .int .i64 c, .bool true] ∧ KR s base (S.takeS w c) w c (i + 1) := by
  have hne : S.row (w * 4 + c) ≠ [] := fun e => by
    have := h.now
    rw [show 4 * w + c = w * 4 + c by omega, e] at this
    simp at this; omega
  rcases take_cases h.ok (w : Int) (c : Int) with ⟨e1, -⟩ | ⟨x, l, k, e1, hk, hkW, hr, e2, hx, ht, ok', -⟩
  · exfalso
    apply e1
    unfold PS.takeR
    rw [if_neg (by rw [h.W]; omega)]
    simp only [Int.toNat_natCast]
    cases hr : S.row (w * 4 + c) with
    | nil => exact absurd hr hne
    | cons x l => rfl
  · rw [Int.toNat_natCast, Int.toNat_natCast] at hk
    subst hk
    have hm := (h.ok.mem _ hkW x (by rw [hr]; simp)).2.2
    have hp := h.ok.place x hx
    have ho : (S.blk x).owner = w ∧ (S.blk x).cls = c := by unfold PS.home PS.far at hm; omega
    have hx' : (S.setRow (w * 4 + c) l).there x := hx
    refine ⟨x, e1, ?_, ⟨h.toKB.setTaken hx ok' (by rw [e2]; rfl) (by rw [e2]; rfl), fun w' c' h1 h2 h3 => ?_, ?_⟩⟩
    · unfold PS.whereV
      have hpl := PS.setTaken_place true hx' hx.1
      have hth : 1 ≤ x ∧ x ≤ (S.takeS w c).blks.length := by rw [e2, PS.setTaken_len]; exact hx
      rw [if_pos hth, e2, hpl.1, hpl.2.1, hpl.2.2.1, hpl.2.2.2]
      show #[Value.int .i64 ((S.blk x).pos : Int), .int .i64 ((S.blk x).size : Int), .int .i64 ((S.blk x).owner : Int), .int .i64 ((S.blk x).cls : Int), .bool true] = _
      rw [ho.1, ho.2]
    · rw [e2]
      show (if 4 * w' + c' = w * 4 + c then l else S.row (4 * w' + c')).length = _
      rw [if_neg (by omega)]
      exact h.later w' c' h1 h2 h3
    · rw [e2]
      show (if 4 * w + c = w * 4 + c then l else S.row (4 * w + c)).length + (i + 1) = _
      rw [if_pos (by omega)]
      have := h.now
      rw [show 4 * w + c = w * 4 + c by omega, hr] at this
      simp at this; omega
theorem KR.empty {w c : Nat} (h : KR s base S w c (s.n c)) (hw : w < s.W) (hc : c < 3) : S.takeR w c = (0, 9) ∧ S.takeS w c = S ∧ KW s base S (3 * w + c + 1) := by
  have he : S.row (w * 4 + c) = [] := List.eq_nil_of_length_eq_zero (by have := h.now; rw [show 4 * w + c = w * 4 + c by omega] at this; omega)
  refine ⟨?_, ?_, ⟨h.toKB, fun w' c' h1 h2 h3 => h.later w' c' h1 h2 (by omega)⟩⟩
  · unfold PS.takeR
    rw [if_neg (by rw [h.W]; omega)]
    simp only [Int.toNat_natCast, he]
  · unfold PS.takeS
    rw [if_neg (by rw [h.W]; omega)]
    simp only [Int.toNat_natCast, he]
end

end Go.Proofs.Ytccadafajocbgaa
