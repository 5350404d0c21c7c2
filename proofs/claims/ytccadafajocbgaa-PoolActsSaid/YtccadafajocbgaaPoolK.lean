/- Layer 10, plain: a pool as it is made, block by block. -/
import Derived.Test.YtccadafajocbgaaPoolJ
open Go Go.RowKit
namespace Go.Proofs.Ytccadafajocbgaa

/-- how many blocks the first k classes have -/
def Shp.off (s : Shp) : Nat → Nat
  | 0 => 0
  | k + 1 => s.off k + s.W * s.n k
def Shp.cl (s : Shp) (j : Nat) : Nat := if j < s.off 1 then 0 else if j < s.off 2 then 1 else 2
def Shp.place (s : Shp) (base j : Nat) : PB := ⟨base + s.ws (s.cl j) + (j - s.off (s.cl j)) * s.z (s.cl j), s.z (s.cl j), (j - s.off (s.cl j)) / s.n (s.cl j), s.cl j, false⟩
/-- the first block's place of a worker's of a class -/
def Shp.beg (s : Shp) (w c : Nat) : Nat := s.off c + w * s.n c
def Shp.rowAt (s : Shp) (N k : Nat) : List Int :=
  if k % 4 = 3 then [] else (List.range' (s.beg (k / 4) (k % 4)) (min (s.n (k % 4)) (N - s.beg (k / 4) (k % 4)))).map fun (j : Nat) => (j : Int) + 1
def Shp.at_ (s : Shp) (base N : Nat) : PS := ⟨s.W, (List.range N).map (s.place base), s.rowAt N⟩

section
variable {s : Shp} {base N : Nat}

theorem Shp.off_mono (s : Shp) : ∀ {a b : Nat}, a ≤ b → s.off a ≤ s.off b
  | a, 0, h => by obtain rfl : a = 0 := by omega
                  exact Nat.le_refl _
  | a, b + 1, h => by
    by_cases e : a = b + 1
    · rw [e]; exact Nat.le_refl _
    · have := Shp.off_mono s (a := a) (b := b) (by omega)
      rw [Shp.off]; omega
theorem Shp.ws_mono (s : Shp) : ∀ {a b : Nat}, a ≤ b → s.ws a ≤ s.ws b
  | a, 0, h => by obtain rfl : a = 0 := by omega
                  exact Nat.le_refl _
  | a, b + 1, h => by
    by_cases e : a = b + 1
    · rw [e]; exact Nat.le_refl _
    · have := Shp.ws_mono s (a := a) (b := b) (by omega)
      rw [Shp.ws]; omega
theorem Shp.cl_of {c j : Nat} (hc : c < 3) (h1 : s.off c ≤ j) (h2 : j < s.off (c + 1)) : s.cl j = c := by
  have m1 := s.off_mono (show 1 ≤ 2 by omega)
  have m0 := s.off_mono (show 0 ≤ 1 by omega)
  unfold Shp.cl
  rcases (show c = 0 ∨ c = 1 ∨ c = 2 by omega) with rfl | rfl | rfl
  · rw [if_pos h2]
  · rw [if_neg (by omega), if_pos h2]
  · rw [if_neg (by omega), if_neg (by omega)]
theorem Shp.cl_spec {j : Nat} (h : j < s.off 3) : s.cl j < 3 ∧ s.off (s.cl j) ≤ j ∧ j < s.off (s.cl j + 1) := by
  unfold Shp.cl
  by_cases h1 : j < s.off 1
  · rw [if_pos h1]; exact ⟨by omega, Nat.zero_le _, h1⟩
  · rw [if_neg h1]
    by_cases h2 : j < s.off 2
    · rw [if_pos h2]; exact ⟨by omega, by omega, h2⟩
    · rw [if_neg h2]; exact ⟨by omega, by omega, h⟩
/-- a worker's blocks of a class lie among the class's -/
theorem Shp.beg_in {w c : Nat} (hw : w < s.W) : s.off c ≤ s.beg w c ∧ s.beg w c + s.n c ≤ s.off (c + 1) := by
  have h : (w + 1) * s.n c ≤ s.W * s.n c := Nat.mul_le_mul_right _ hw
  rw [Nat.succ_mul] at h
  unfold Shp.beg
  rw [Shp.off]
  omega
theorem Shp.place_at {w c i : Nat} (hw : w < s.W) (hc : c < 3) (hi : i < s.n c) : s.place base (s.beg w c + i) = ⟨base + s.ws c + (w * s.n c + i) * s.z c, s.z c, w, c, false⟩ := by
  have hb := s.beg_in (w := w) (c := c) hw
  have hcl : s.cl (s.beg w c + i) = c := Shp.cl_of hc (by omega) (by omega)
  have e : s.beg w c + i - s.off c = w * s.n c + i := by unfold Shp.beg; omega
  unfold Shp.place
  rw [hcl, e]
  have hd : (w * s.n c + i) / s.n c = w := by
    rw [Nat.mul_comm, Nat.mul_add_div (by omega), Nat.div_eq_of_lt hi]; rfl
  rw [hd]
theorem Shp.row_step {w c i k : Nat} (hw : w < s.W) (hc : c < 3) (hi : i < s.n c) (hk : k < 4 * s.W) :
    s.rowAt (s.beg w c + i + 1) k = if k = 4 * w + c then s.rowAt (s.beg w c + i) k ++ [((s.beg w c + i : Nat) : Int) + 1] else s.rowAt (s.beg w c + i) k := by
  have hb := s.beg_in (w := w) (c := c) hw
  by_cases e : k = 4 * w + c
  · rw [if_pos e]
    have e1 : k / 4 = w := by omega
    have e2 : k % 4 = c := by omega
    unfold Shp.rowAt
    simp only [e1, e2, if_neg (show ¬ c = 3 by omega)]
    have h1 : min (s.n c) (s.beg w c + i + 1 - s.beg w c) = i + 1 := by omega
    have h2 : min (s.n c) (s.beg w c + i - s.beg w c) = i := by omega
    rw [h1, h2, List.range'_1_concat, List.map_append]
    rfl
  · rw [if_neg e]
    unfold Shp.rowAt
    by_cases h3 : k % 4 = 3
    · simp only [if_pos h3]
    · simp only [if_neg h3]
      have hw' : k / 4 < s.W := by omega
      have hb' := s.beg_in (w := k / 4) (c := k % 4) hw'
      have hmin : min (s.n (k % 4)) (s.beg w c + i + 1 - s.beg (k / 4) (k % 4)) = min (s.n (k % 4)) (s.beg w c + i - s.beg (k / 4) (k % 4)) := by
        have hdis : s.beg w c + i + 1 ≤ s.beg (k / 4) (k % 4) ∨ s.beg (k / 4) (k % 4) + s.n (k % 4) ≤ s.beg w c + i := by
          by_cases hcc : k % 4 = c
          · rw [hcc] at hb' ⊢
            rcases Nat.lt_trichotomy (k / 4) w with h | h | h
            · right
              have h1 : (k / 4 + 1) * s.n c ≤ w * s.n c := Nat.mul_le_mul_right _ h
              rw [Nat.succ_mul] at h1
              unfold Shp.beg; omega
            · exact absurd (by omega) e
            · left
              have h1 : (w + 1) * s.n c ≤ k / 4 * s.n c := Nat.mul_le_mul_right _ h
              rw [Nat.succ_mul] at h1
              unfold Shp.beg; omega
          · rcases Nat.lt_or_ge (k % 4) c with h | h
            · right
              have := s.off_mono (show k % 4 + 1 ≤ c by omega)
              omega
            · left
              have := s.off_mono (show c + 1 ≤ k % 4 by omega)
              omega
        omega
      rw [hmin]
theorem Shp.off_le {s : Shp} (h : s.Right) : s.off 3 ≤ 192000 := by
  have h0 := (Shp.term h (k := 0) (by omega)).1
  have h1 := (Shp.term h (k := 1) (by omega)).1
  have h2 := (Shp.term h (k := 2) (by omega)).1
  simp only [Shp.off]; omega
theorem Shp.at_zero (s : Shp) (base : Nat) : s.at_ base 0 = ⟨s.W, [], fun _ => []⟩ := by
  unfold Shp.at_
  congr 1
  funext k
  unfold Shp.rowAt
  split
  · rfl
  · simp
theorem Shp.at_blk {x : Int} (h1 : 1 ≤ x) (h2 : x ≤ N) : (s.at_ base N).blk x = s.place base (x - 1).toNat := by
  unfold PS.blk Shp.at_
  simp only []
  rw [List.getD_eq_getElem?_getD, List.getElem?_map, List.getElem?_range (by omega)]; rfl
theorem Shp.at_there {x : Int} : (s.at_ base N).there x ↔ 1 ≤ x ∧ x ≤ N := by unfold PS.there Shp.at_; simp

/-- where a block stands: its worker, class and number there -/
theorem Shp.split {j : Nat} (h : j < s.off 3) : ∃ w c i, w < s.W ∧ c < 3 ∧ i < s.n c ∧ j = s.beg w c + i := by
  obtain ⟨h1, h2, h3⟩ := Shp.cl_spec h
  rw [Shp.off] at h3
  generalize s.cl j = c at *
  have hn : 0 < s.n c := by
    rcases Nat.eq_zero_or_pos (s.n c) with e | e
    · rw [e] at h3; omega
    · exact e
  have hlt : j - s.off c < s.W * s.n c := by omega
  have hdm := Nat.div_add_mod (j - s.off c) (s.n c)
  refine ⟨(j - s.off c) / s.n c, c, (j - s.off c) % s.n c, Nat.div_lt_of_lt_mul (by rw [Nat.mul_comm]; exact hlt), h1, Nat.mod_lt _ hn, ?_⟩
  unfold Shp.beg
  rw [Nat.mul_comm]
  omega

/-- the rows of a pool that is made: whose they are -/
theorem Shp.row_full {w c : Nat} (hw : w < s.W) (hc : c < 3) : s.rowAt (s.off 3) (4 * w + c) = (List.range' (s.beg w c) (s.n c)).map fun (j : Nat) => (j : Int) + 1 := by
  have e1 : (4 * w + c) / 4 = w := by omega
  have e2 : (4 * w + c) % 4 = c := by omega
  have hb := s.beg_in (w := w) (c := c) hw
  have := s.off_mono (show c + 1 ≤ 3 by omega)
  unfold Shp.rowAt
  rw [e1, e2, if_neg (by omega), show min (s.n c) (s.off 3 - s.beg w c) = s.n c by omega]
theorem Shp.row_far {w : Nat} : s.rowAt N (4 * w + 3) = [] := by
  unfold Shp.rowAt
  rw [if_pos (by omega)]

theorem Shp.made_ok (h : s.Right) (hb : base + s.ws 3 ≤ 65536) : (s.at_ base (s.off 3)).Ok := by
  have info : ∀ x, (s.at_ base (s.off 3)).there x → ∃ w c i, w < s.W ∧ c < 3 ∧ i < s.n c ∧ x = ((s.beg w c + i : Nat) : Int) + 1 ∧ (s.at_ base (s.off 3)).blk x = ⟨base + s.ws c + (w * s.n c + i) * s.z c, s.z c, w, c, false⟩ := by
    intro x hx
    have hx := Shp.at_there.1 hx
    obtain ⟨w, c, i, hw, hc, hi, e⟩ := Shp.split (s := s) (j := (x - 1).toNat) (by omega)
    refine ⟨w, c, i, hw, hc, hi, by omega, ?_⟩
    rw [Shp.at_blk hx.1 hx.2, e, Shp.place_at hw hc hi]
  have inrow : ∀ w c i, w < s.W → c < 3 → i < s.n c → (((s.beg w c + i : Nat) : Int) + 1) ∈ (s.at_ base (s.off 3)).row (4 * w + c) := by
    intro w c i hw hc hi
    show _ ∈ s.rowAt (s.off 3) (4 * w + c)
    rw [Shp.row_full hw hc, List.mem_map]
    exact ⟨s.beg w c + i, by rw [List.mem_range'_1]; omega, rfl⟩
  have ofrow : ∀ k, k < 4 * s.W → ∀ x ∈ (s.at_ base (s.off 3)).row k, ∃ w c i, w < s.W ∧ c < 3 ∧ i < s.n c ∧ k = 4 * w + c ∧ x = ((s.beg w c + i : Nat) : Int) + 1 := by
    intro k hk x hx
    change x ∈ s.rowAt (s.off 3) k at hx
    by_cases h3 : k % 4 = 3
    · rw [show k = 4 * (k / 4) + 3 by omega, Shp.row_far] at hx; simp at hx
    · rw [show k = 4 * (k / 4) + k % 4 by omega, Shp.row_full (by omega) (by omega), List.mem_map] at hx
      obtain ⟨j, hj, rfl⟩ := hx
      rw [List.mem_range'_1] at hj
      exact ⟨k / 4, k % 4, j - s.beg (k / 4) (k % 4), by omega, by omega, by omega, by omega, by omega⟩
  refine ⟨h.W1, h.W2, ?_, ?_, ?_, ?_, ?_, ?_⟩
  · show ((List.range (s.off 3)).map (s.place base)).length ≤ 192000
    rw [List.length_map, List.length_range]; exact Shp.off_le h
  · intro x hx
    obtain ⟨w, c, i, hw, hc, hi, -, e⟩ := info x hx
    rw [e]
    have hz := h.z1 c hc
    have h1 : (w * s.n c + i + 1) * s.z c ≤ s.W * s.n c * s.z c := Nat.mul_le_mul_right _ (by
      have h2 : (w + 1) * s.n c ≤ s.W * s.n c := Nat.mul_le_mul_right _ hw
      rw [Nat.succ_mul] at h2; omega)
    have h2 := s.ws_mono (show c + 1 ≤ 3 by omega)
    rw [Shp.ws] at h2
    rw [Nat.succ_mul] at h1
    exact ⟨hw, hc, by show base + s.ws c + (w * s.n c + i) * s.z c ≤ 65536; omega, by show s.z c ≤ 65536; omega⟩
  · intro k hk x hx
    obtain ⟨w, c, i, hw, hc, hi, rfl, rfl⟩ := ofrow k hk x hx
    have hbi := s.beg_in (w := w) (c := c) hw
    have hmm := s.off_mono (show c + 1 ≤ 3 by omega)
    have ht : (s.at_ base (s.off 3)).there (((s.beg w c + i : Nat) : Int) + 1) := Shp.at_there.2 ⟨by omega, by omega⟩
    have e : (s.at_ base (s.off 3)).blk (((s.beg w c + i : Nat) : Int) + 1) = ⟨base + s.ws c + (w * s.n c + i) * s.z c, s.z c, w, c, false⟩ := by
      rw [Shp.at_blk (by omega) (by omega), show (((s.beg w c + i : Nat) : Int) + 1 - 1).toNat = s.beg w c + i by omega, Shp.place_at hw hc hi]
    refine ⟨ht, by rw [e], .inl ?_⟩
    unfold PS.home
    rw [e]
  · intro k hk
    show (s.rowAt (s.off 3) k).Nodup
    unfold Shp.rowAt
    split
    · simp
    · exact List.Pairwise.map _ (fun a b (h : a ≠ b) e => h (by omega)) (List.nodup_range' (s := _) (n := _))
  · intro x hx _
    have e : (s.at_ base (s.off 3)).row ((s.at_ base (s.off 3)).far x) = [] := Shp.row_far (s := s) (N := s.off 3)
    rw [e]; simp
  · intro x hx _
    obtain ⟨w, c, i, hw, hc, hi, rfl, e⟩ := info x hx
    left
    have eh : (s.at_ base (s.off 3)).home (((s.beg w c + i : Nat) : Int) + 1) = 4 * w + c := by unfold PS.home; rw [e]
    rw [eh]
    exact inrow w c i hw hc hi
end

end Go.Proofs.Ytccadafajocbgaa
