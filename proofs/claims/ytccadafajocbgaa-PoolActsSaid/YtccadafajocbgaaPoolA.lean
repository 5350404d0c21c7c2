/- What may have turned, by a predicate; rows of numbers, rows of structs: the words of layer 10's contracts. -/
import Derived.Test.YtccadafajocbgaaMemG
import Derived.Laws.OwnMore
import Derived.Deep.AppendLies
open Go Go.RowKit
namespace Go.Proofs.Ytccadafajocbgaa

/-- Of what was there, only the blocks of F may have turned. -/
structure Turn (F : Nat → Prop) (w w' : World) : Prop where
  os : w'.os = w.os
  tape : w'.tape = w.tape
  output : w'.output = w.output
  size : w.heap.size ≤ w'.heap.size
  block : ∀ k, k < w.heap.size → ¬ F k → w'.heap[k]? = w.heap[k]?

section
variable {F G : Nat → Prop} {w w' w1 : World}
theorem Turn.refl (F : Nat → Prop) (w : World) : Turn F w w := ⟨rfl, rfl, rfl, Nat.le_refl _, fun _ _ _ => rfl⟩
theorem Turn.mono (h : Turn F w w') (hG : ∀ k, F k → G k ∨ w.heap.size ≤ k) : Turn G w w' :=
  ⟨h.os, h.tape, h.output, h.size, fun k hk hn => h.block k hk (fun hf => by rcases hG k hf with a | a; exact hn a; omega)⟩
theorem Turn.trans (h : Turn F w w1) (k : Turn G w1 w') (hG : ∀ x, G x → F x ∨ w.heap.size ≤ x) : Turn F w w' :=
  ⟨k.os.trans h.os, k.tape.trans h.tape, k.output.trans h.output, Nat.le_trans h.size k.size, fun i hi hn =>
    (k.block i (Nat.lt_of_lt_of_le hi h.size) (fun hf => by rcases hG i hf with a | a; exact hn a; omega)).trans (h.block i hi hn)⟩
theorem Turn.of_only {S : List Nat} (h : Only S w w') : Turn (fun k => k ∈ S) w w' := ⟨h.os, h.tape, h.output, h.size, fun k hk hn => h.block k hk hn⟩
theorem Turn.of_grown {row : Option Nat} (h : w.grownBy w' row) : Turn (fun k => some k = row) w w' := ⟨h.os, h.tape, h.output, h.size, fun k hk hn => h.block k hk hn⟩
theorem Turn.of_below {B : Nat} (h : Below B w w') (hB : w.heap.size ≤ B) : Turn (fun _ => False) w w' := ⟨h.os, h.tape, h.output, h.size, fun k hk _ => h.block k (by omega)⟩
theorem Turn.alloc (h : Turn F w w') (o : Obj) : Turn F w (w'.alloc o) :=
  h.trans (Turn.of_grown (World.grownBy_alloc w' o none)) (fun x hx => by cases hx)
theorem Turn.drew (h : Turn F w w') : Turn F w w'.drew := ⟨h.os, h.tape, h.output, h.size, h.block⟩
theorem Turn.drewN (h : Turn F w w') (n : Nat) : Turn F w (w'.drewN n) := ⟨h.os, h.tape, h.output, h.size, h.block⟩
theorem Turn.setCell (h : Turn F w w') {p : Addr} (hp : F p.block ∨ w.heap.size ≤ p.block) (u : Value) : Turn F w (w'.setCell p u) :=
  ⟨h.os, h.tape, h.output, by simpa using h.size, fun k hk hn => (Below.heap_setCell _ _ _ _ (fun e => by subst e; rcases hp with a | a; exact hn a; omega)).trans (h.block k hk hn)⟩
theorem Turn.setCells {b : Nat} (vs : List Value) : ∀ (o : Nat) {w' : World}, Turn F w w' → (F b ∨ w.heap.size ≤ b) → Turn F w (w'.setCells b o vs) := by
  induction vs with
  | nil => intro o w' h hp; exact h
  | cons v vs ih => intro o w' h hp; rw [World.setCells]; exact ih (o + 1) (h.setCell (p := ⟨b, o, none⟩) hp v) hp
theorem Turn.below {B : Nat} (h : Turn F w w') (hB : B ≤ w.heap.size) (hF : ∀ k, F k → B ≤ k) : Below B w w' :=
  ⟨h.os, h.tape, h.output, h.size, fun k hk => h.block k (by omega) (fun hf => by have := hF k hf; omega)⟩
theorem Turn.lt {k : Nat} (h : Turn F w w') (hk : k < w.heap.size) : k < w'.heap.size := Nat.lt_of_lt_of_le hk h.size
theorem Turn.cell (h : Turn F w w') {a : Addr} (hl : a.block < w.heap.size) (hn : ¬ F a.block) : w'.cell? a = w.cell? a :=
  World.cell?_of_block (h.block _ hl hn)
theorem Turn.frozen (h : Turn F w w') {a : Addr} (hl : a.block < w.heap.size) (hn : ¬ F a.block) : w'.frozen? a = w.frozen? a :=
  World.frozen?_of_block (h.block _ hl hn)
theorem Blk.turn {b : Nat} {c : List Value} {t : TypeId} (h : Blk w b c t) (ho : Turn F w w') (hb : ¬ F b) : Blk w' b c t := (ho.block b h.lt hb).trans h
theorem IsM.turn {T : TypeId} {m a b : Nat} {s : MemS} (h : IsM T w m a b s) (ho : Turn F w w') (hm : ¬ F m) (ha : ¬ F a) (hb : ¬ F b) : IsM T w' m a b s :=
  ⟨h.top.turn ho hm, h.words.turn ho ha, h.live.turn ho hb, h.ma, h.mb, h.ab, h.len, h.room⟩
theorem own_turn {base : Nat} {e : TypeId} {size n : Nat} {v : Value} {xs : List Value} (h : w.ownsRow base e size v n xs) (ho : Turn F w w') (hv : ∀ g, v.ownBlock = some g → ¬ F g) : w'.ownsRow base e size v n xs := by
  refine ⟨h.1, ?_⟩
  rcases h.2 with hn | ⟨g, cap, cur, rfl, hb, hgg, rest⟩
  · exact .inl hn
  · exact .inr ⟨g, cap, cur, rfl, hb, (ho.block g (Array.getElem?_eq_some_iff.1 hgg).1 (hv g rfl)).trans hgg, rest⟩
theorem Blk.ne_type {b c : Nat} {x y : List Value} {s t : TypeId} (h : Blk w b x s) (k : Blk w c y t) (hst : s ≠ t) : b ≠ c := by
  rintro rfl
  unfold Blk at h k
  rw [h] at k
  injection k with k
  injection k with _ k
  exact hst k
theorem own_ne_type {base : Nat} {e : TypeId} {size n : Nat} {v : Value} {xs : List Value} {b : Nat} {c : List Value} {t : TypeId} (h : w.ownsRow base e size v n xs) (k : Blk w b c t) (hst : e ≠ t) : v.ownBlock ≠ some b := by
  rcases h.2 with ⟨rfl, _⟩ | ⟨g, cap, cur, rfl, _, hg, _⟩
  · simp [Value.ownBlock]
  · simp only [Value.ownBlock, ne_eq, Option.some.injEq]
    rintro rfl
    unfold Blk at k
    rw [hg] at k
    injection k with k
    injection k with _ k
    exact hst k
theorem own_ne_own {base base' : Nat} {e e' : TypeId} {size size' n n' : Nat} {v v' : Value} {xs xs' : List Value} (h : w.ownsRow base e size v n xs) (k : w.ownsRow base' e' size' v' n' xs') (hst : e ≠ e') : ∀ g, v.ownBlock = some g → v'.ownBlock ≠ some g := by
  rintro g hg hg'
  rcases h.2 with ⟨rfl, _⟩ | ⟨g1, cap, cur, rfl, _, hg1, _⟩
  · simp [Value.ownBlock] at hg
  rcases k.2 with ⟨rfl, _⟩ | ⟨g2, cap2, cur2, rfl, _, hg2, _⟩
  · simp [Value.ownBlock] at hg'
  simp only [Value.ownBlock, Option.some.injEq] at hg hg'
  subst hg hg'
  rw [hg1] at hg2
  injection hg2 with hg2
  injection hg2 with _ hg2
  exact hst hg2
end

/-- Places of a list of lists of one length. -/
theorem flat_get {α β : Type} {f : α → List β} {n : Nat} (hf : ∀ a, (f a).length = n) : ∀ (l : List α) (i j : Nat) (a : α), l[i]? = some a → j < n → (l.flatMap f)[i * n + j]? = (f a)[j]?
  | [], i, j, a, h, _ => by simp at h
  | x :: l, 0, j, a, h, hj => by
    simp at h; subst h
    rw [List.flatMap_cons, List.getElem?_append_left (by rw [hf]; omega)]; congr 1; omega
  | x :: l, i + 1, j, a, h, hj => by
    rw [List.flatMap_cons, List.getElem?_append_right (by rw [hf, Nat.succ_mul]; omega), hf, ← flat_get hf l i j a (by simpa using h) hj]
    congr 1
    rw [Nat.succ_mul]; omega
theorem flat_len {α β : Type} {f : α → List β} {n : Nat} (hf : ∀ a, (f a).length = n) (l : List α) : (l.flatMap f).length = l.length * n := by
  induction l with
  | nil => simp
  | cons x l ih => rw [List.flatMap_cons, List.length_append, ih, hf, List.length_cons, Nat.succ_mul]; omega
theorem flat_set {α β : Type} {f : α → List β} {n : Nat} (hf : ∀ a, (f a).length = n) : ∀ (l : List α) (i j : Nat) (a b : α) (u : β), l[i]? = some a → j < n → (f a).set j u = f b → (l.flatMap f).set (i * n + j) u = (l.set i b).flatMap f
  | [], i, j, a, b, u, h, _, _ => by simp at h
  | x :: l, 0, j, a, b, u, h, hj, hu => by
    simp at h; subst h
    rw [List.flatMap_cons, List.set_append_left _ _ (by rw [hf]; omega), List.set_cons_zero, List.flatMap_cons, ← hu]; congr 2; omega
  | x :: l, i + 1, j, a, b, u, h, hj, hu => by
    rw [List.flatMap_cons, List.set_append_right _ _ (by rw [hf, Nat.succ_mul]; omega), hf, List.set_cons_succ, List.flatMap_cons, ← flat_set hf l i j a b u (by simpa using h) hj hu]
    congr 2
    rw [Nat.succ_mul]; omega

end Go.Proofs.Ytccadafajocbgaa
