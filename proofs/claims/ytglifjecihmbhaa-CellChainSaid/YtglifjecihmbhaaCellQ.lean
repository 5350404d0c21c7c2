/- Layer 13, plain: those who wait one behind the other. -/
import Derived.Test.YtglifjecihmbhaaCellP
open Go Go.RowKit
namespace Go.Proofs.Ytglifjecihmbhaa

theorem move_int {w0 w : World} {L : Lay} {C : ACell} {A : Nat → AOp} (h : Inv w0 w L C A) {B : Nat} (hL : L.fine B) (y : Int) (h0 : 0 ≤ y) (h255 : y ≤ 255) (k : Nat) (hk : y % 6 = k) (hk5 : k ≤ 5) :
    Calls Try.prog 9 #[.pointer (some ⟨L.v, 0, none⟩), .int .u8 y] w fun e w' => e = .returned (.bool true) ∧ Inv w0 w' L (C.go A k) (opsGo C A k) := by
  obtain ⟨n, rfl⟩ : ∃ n : Nat, y = n := ⟨y.toNat, by omega⟩
  exact move_any h hL n (by omega) k hk hk5

theorem its_inv {w0 w w' : World} {L : Lay} {C : ACell} {A : Nat → AOp} {k i : Nat} (h : Inv w0 w' L ((its k i (C, A)).1.go (its k i (C, A)).2 k) (opsGo (its k i (C, A)).1 (its k i (C, A)).2 k)) : Inv w0 w' L (its k (i + 1) (C, A)).1 (its k (i + 1) (C, A)).2 := h

structure Queue (value : Int) (who : List Nat) (C : ACell) (A : Nat → AOp) : Prop where
  nodup : who.Nodup
  chain : Chain C.L C.H who.reverse
  fill : A 0 = A0 value 0 0
  len : C.L.length = 6
  inn : ∀ x, x ∈ who → (A x).ended = true
  out : ∀ x, 1 ≤ x → x ∉ who → A x = A0 value 0 x

theorem Queue.start (value : Int) : Queue value [] C0 (A0 value 0) := ⟨List.nodup_nil, rfl, rfl, rfl, fun x hx => by simp at hx, fun x _ _ => rfl⟩
theorem Queue.head {value : Int} {who : List Nat} {C : ACell} {A : Nat → AOp} (h : Queue value who C A) : C.H ≠ -1 := by
  have := h.chain
  cases hw : who.reverse with
  | nil => rw [hw] at this; have : C.H = 0 := this; omega
  | cons x l => rw [hw] at this; have := this.1; omega
theorem Queue.more {value : Int} {who : List Nat} {C : ACell} {A : Nat → AOp} (h : Queue value who C A) (x : Nat) (h1 : 1 ≤ x) (h5 : x ≤ 5) (hx : x ∉ who) : Queue value (who ++ [x]) (its x 3 (C, A)).1 (its x 3 (C, A)).2 := by
  obtain ⟨f1, f2⟩ := wait3 value 0 C A x h1 (h.out x h1 hx) h.head
  have hi := its_ops x C A 3
  refine ⟨?_, ?_, ?_, ?_, ?_, ?_⟩
  · rw [List.nodup_append]; exact ⟨h.nodup, by simp, fun a ha b hb => by simp at hb; subst hb; exact fun e => hx (e ▸ ha)⟩
  · rw [f1, List.reverse_append]
    refine ⟨rfl, h1, h5, ?_⟩
    have e : (C.L.set x C.H).getD x 0 = C.H := by simp [List.getD_eq_getElem?_getD, h.len, show x < 6 by omega]
    show Chain (C.L.set x C.H) ((C.L.set x C.H).getD x 0) who.reverse
    rw [e]
    exact Chain.set (by simpa using hx) h.chain
  · rw [hi 0 (by omega)]; exact h.fill
  · rw [f1]; simpa using h.len
  · intro y hy
    by_cases e : y = x
    · subst e; rw [f2]
    · rw [hi y e]; exact h.inn y (by simpa [e] using hy)
  · intro y hy hn
    have e : y ≠ x := fun e => hn (by simp [e])
    rw [hi y e]
    exact h.out y hy (fun hm => hn (by simp [hm]))
theorem Queue.low {value : Int} {who : List Nat} {C : ACell} {A : Nat → AOp} (h : Queue value who C A) : who.length ≤ 5 :=
  nodup_len h.nodup (fun x hx => Chain.low h.chain x (by simpa using hx))
theorem Queue.done {value : Int} {who : List Nat} {C : ACell} {A : Nat → AOp} (h : Queue value who C A) :
    ((its 0 4 (C, A)).2 0).ended = true ∧ ((its 0 4 (C, A)).2 0).waits = false ∧ Chain (its 0 4 (C, A)).1.L ((its 0 4 (C, A)).2 0).first who.reverse := by
  obtain ⟨f1, f2⟩ := fill4 value 0 C A h.fill h.head
  rw [f1, f2]
  exact ⟨rfl, rfl, h.chain⟩

theorem rowShape {w : World} {base : Nat} {e : TypeId} {v : Value} {n : Nat} {xs : List Value} (h : w.ownsRow base e 1 v n xs) :
    ∃ ad cap, v = .slice ad n cap ∧ (0 < n → ∃ g, ad = some ⟨g, 0, none⟩ ∧ base ≤ g) := by
  obtain ⟨hl, ⟨rfl, rfl⟩ | ⟨g, cap, cur, rfl, hb, hgg, hnc, hcm, hsz, ht⟩⟩ := h
  · exact ⟨none, 0, rfl, fun h => by omega⟩
  · exact ⟨some ⟨g, 0, none⟩, cap, rfl, fun _ => ⟨g, rfl, hb⟩⟩
theorem rowCell {w : World} {base : Nat} {e : TypeId} {g n cap : Nat} {xs : List Value} (h : w.ownsRow base e 1 (.slice (some ⟨g, 0, none⟩) n cap) n xs) (m : Nat) (u : Value) (hu : xs[m]? = some u) : w.cell? ⟨g, m, none⟩ = some u := by
  have := World.ownsRow.cells h (g := g) rfl m u hu
  have e : (⟨g, 0, none⟩ : Addr).add m = ⟨g, m, none⟩ := by unfold Addr.add; split <;> simp_all
  rw [e] at this
  exact this

/-- The last of the first m + 1. -/
theorem chain_take {L : List Int} {at0 : Int} {who : List Nat} {m : Nat} (hm : m < who.length) (h : Chain L at0 (who.take (m + 1)).reverse) :
    at0 = (who.getD m 0 : Nat) ∧ 1 ≤ who.getD m 0 ∧ who.getD m 0 ≤ 5 ∧ Chain L (L.getD (who.getD m 0) 0) (who.take m).reverse := by
  have e : who.take (m + 1) = who.take m ++ [who.getD m 0] := by
    rw [List.take_succ_eq_append_getElem (by simpa using hm)]
    simp [List.getD_eq_getElem?_getD, hm]
  rw [e, List.reverse_append] at h
  exact h

end Go.Proofs.Ytglifjecihmbhaa
