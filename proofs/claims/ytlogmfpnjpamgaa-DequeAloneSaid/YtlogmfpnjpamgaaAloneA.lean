/- DequeAlone: what the law's loop keeps. -/
import Derived.Test.YtlogmfpnjpamgaaDeqHeld
import Derived.Test.YtlogmfpnjpamgaaArg
open Go Go.RowKit
namespace Go.Proofs.Ytlogmfpnjpamgaa

theorem is1K : (1 : Nat) = 1 ∨ (1 : Nat) = 2 ∨ (1 : Nat) = 3 := by decide
theorem is2K : (2 : Nat) = 1 ∨ (2 : Nat) = 2 ∨ (2 : Nat) = 3 := by decide
theorem is3K : (3 : Nat) = 1 ∨ (3 : Nat) = 2 ∨ (3 : Nat) = 3 := by decide

theorem infoI64 : (Try.prog.info? 2).map (fun i => (i.zero, i.size, i.bytes)) = some (some (.int .i64 0), 1, 8) := by kernel_rfl

theorem held_form {w : World} {S : List Nat} {base : Nat} {v : Value} {l : List Int} (h : Held w S base v l) : ∃ a c, v = .slice a l.length c := by
  rcases h with ⟨rfl, rfl⟩ | ⟨g, off, cap, hv, _⟩
  · exact ⟨none, 0, rfl⟩
  · exact ⟨_, _, hv⟩
theorem held_some {w : World} {S : List Nat} {base : Nat} {v : Value} {l : List Int} (h : Held w S base v l) (q : Nat) (hq : l.length = q + 1) :
    ∃ g off c, v = .slice (some ⟨g, off, none⟩) (q + 1) (c + 1) ∧ q ≤ c ∧ w.cell? ⟨g, off, none⟩ = some (.int .i64 (l.getD 0 0)) ∧ w.cell? ⟨g, off + q, none⟩ = some (.int .i64 (l.getD (l.length - 1) 0)) := by
  rcases h with ⟨rfl, rfl⟩ | ⟨g, off, cap, hv, hb, hg, hn, hc, h1, h2⟩
  · simp at hq
  · have e : ∀ i, i < l.length → w.cell? ⟨g, off + i, none⟩ = some (.int .i64 (l.getD i 0)) := fun i hi => h1 i _ (by rw [List.getD_eq_getElem?_getD, List.getElem?_eq_getElem hi]; rfl)
    obtain ⟨c, rfl⟩ : ∃ c, cap = c + 1 := ⟨cap - 1, by omega⟩
    refine ⟨g, off, c, by rw [hv, hq], by omega, e 0 (by omega), ?_⟩
    have := e q (by omega)
    rwa [show l.length - 1 = q by omega]
theorem held_tail {w : World} {S : List Nat} {base g off q c : Nat} {l : List Int} (h : Held w S base (.slice (some ⟨g, off, none⟩) (q + 1) (c + 1)) l) (hq : l.length = q + 1) : Held w S base (.slice (if c = 0 then some ⟨g, off, none⟩ else some ⟨g, off + 1, none⟩) q c) l.tail := by
  rcases h with ⟨h, _⟩ | ⟨g', off', cap, hv, hb, hg, hn, hc, h1, h2⟩
  · cases h
  · injection hv with a1 a2 a3; injection a1 with a1; injection a1 with a4 a5
    subst a4; subst a5; subst a3
    by_cases hc0 : c = 0
    · subst hc0
      refine .inr ⟨g, off, 0, by rw [List.length_tail, hq]; rfl, hb, hg, hn, by rw [List.length_tail]; omega, fun i u hu => ?_, fun i hi => by omega⟩
      have hi : i < l.tail.length := (List.getElem?_eq_some_iff.1 hu).1
      rw [List.length_tail] at hi; omega
    · refine .inr ⟨g, off + 1, c, by rw [if_neg hc0, List.length_tail, hq]; rfl, hb, hg, hn, by rw [List.length_tail]; omega, fun i u hu => ?_, fun i hi => ?_⟩
      · rw [Nat.add_assoc, Nat.add_comm 1 i]; exact h1 (i + 1) u (by rwa [List.getElem?_tail] at hu)
      · rw [Nat.add_assoc, Nat.add_comm 1 i]; exact h2 (i + 1) (by omega)
theorem held_init {w : World} {S : List Nat} {base g off q c : Nat} {l : List Int} (h : Held w S base (.slice (some ⟨g, off, none⟩) (q + 1) (c + 1)) l) (hq : l.length = q + 1) : Held w S base (.slice (some ⟨g, off, none⟩) q (c + 1)) l.dropLast := by
  rcases h with ⟨h, _⟩ | ⟨g', off', cap, hv, hb, hg, hn, hc, h1, h2⟩
  · cases h
  · injection hv with a1 a2 a3; injection a1 with a1; injection a1 with a4 a5
    subst a4; subst a5; subst a3
    refine .inr ⟨g, off, c + 1, by rw [List.length_dropLast, hq]; rfl, hb, hg, hn, by rw [List.length_dropLast]; omega, fun i u hu => ?_, h2⟩
    rw [List.getElem?_dropLast] at hu
    split at hu
    · exact h1 i u hu
    · cases hu

theorem alone_steal_last' {kind room used : Nat} {l : List Int} {D : Dq} (hk : kind = 2) (h : Rep kind room l used D) (hl : 1 ≤ l.length) : Runs kind room D 2 0 (l.getD (l.length - 1) 0) 0 l.dropLast (used - 1) := by
  subst hk; exact alone_steal_last h hl
theorem alone_pop_first' {kind room used : Nat} {l : List Int} {D : Dq} (hk : kind = 3) (h : Rep kind room l used D) (hl : 1 ≤ l.length) : Runs kind room D 1 0 (l.getD 0 0) 0 l.tail used := by
  subst hk; exact alone_pop_first h hl

set_option maxRecDepth 100000 in
theorem dequeAlone_long (kind room : Int) (n : Nat) (a : Option Addr) (cap : Nat) (w : World) (h : 100 < n) : Calls Try.prog 6 #[.int .u8 kind, .int .u8 room, .slice a n cap] w fun e w' => e = .returned (.bool true) ∧ Below w.heap.size w w' := by
  have hn : (100 : Int) < (n : Int) := by omega
  go_enter Try.func6, Try.ntmps6
  go_wp2_with fail
  go_ret
  exact ⟨rfl, Below.refl _ _⟩

/-- The state of the law's loop. -/
structure AloneS (w wr : World) (m a b d kind room i x used : Nat) (l : List Int) (v : Value) : Prop where
  ds : DS w wr m a b d kind room (20 * i) l used
  hh : Held wr [m, a, b, d] w.heap.size v l
  hx : x ≤ i
  hu : used ≤ i
  hl : l.length ≤ used

end Go.Proofs.Ytlogmfpnjpamgaa
