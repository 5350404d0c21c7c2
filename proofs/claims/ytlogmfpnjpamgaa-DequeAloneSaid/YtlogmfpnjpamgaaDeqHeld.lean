/- Layer 9: numbers that a law keeps in a slice of its own, which it may cut in front and behind; a deque's operation beside them. -/
import Derived.Test.YtlogmfpnjpamgaaDeqV
import Derived.Test.YtlogmfpnjpamgaaDeqW
import Derived.Laws.OwnMore
import Derived.Deep.MidRow
open Go Go.RowKit
namespace Go.Proofs.Ytlogmfpnjpamgaa

/-- v holds the numbers l: nil, or a part of a block that is none of S. -/
def Held (w : World) (S : List Nat) (base : Nat) (v : Value) (l : List Int) : Prop :=
  (v = .slice none 0 0 ∧ l = []) ∨
  ∃ g off cap, v = .slice (some ⟨g, off, none⟩) l.length cap ∧ base ≤ g ∧ g < w.heap.size ∧ g ∉ S ∧ l.length ≤ cap ∧ (∀ i u, l[i]? = some u → w.cell? ⟨g, off + i, none⟩ = some (.int .i64 u)) ∧
    ∀ i, i < cap → (w.cell? ⟨g, off + i, none⟩).isSome = true ∧ w.frozen? ⟨g, off + i, none⟩ = false

theorem held_nil (w : World) (S : List Nat) (base : Nat) : Held w S base (.slice none 0 0) [] := .inl ⟨rfl, rfl⟩

theorem Only.cellE {T : List Nat} {w w' : World} (h : Only T w w') {g : Nat} (hg : g < w.heap.size) (hn : g ∉ T) (j : Nat) : w'.cell? ⟨g, j, none⟩ = w.cell? ⟨g, j, none⟩ ∧ w'.frozen? ⟨g, j, none⟩ = w.frozen? ⟨g, j, none⟩ := by
  have := h.block g hg hn
  simp [World.cell?, World.frozen?, this]

theorem Held.only {S S' T : List Nat} {w w' : World} {base : Nat} {v : Value} {l : List Int} (h : Held w S base v l) (ho : Only T w w') (hT : ∀ k, k ∈ T → k ∈ S ∨ w.heap.size ≤ k) (hS : ∀ k, k ∈ S' → k ∈ S ∨ w.heap.size ≤ k) : Held w' S' base v l := by
  rcases h with h | ⟨g, off, cap, hv, hb, hg, hn, hc, h1, h2⟩
  · exact .inl h
  · have ht : g ∉ T := fun hm => by rcases hT g hm with a | a; exact hn a; omega
    refine .inr ⟨g, off, cap, hv, hb, Nat.lt_of_lt_of_le hg ho.size, fun hm => ?_, hc, fun i u hu => ?_, fun i hi => ?_⟩
    · rcases hS g hm with a | a
      · exact hn a
      · omega
    · rw [(ho.cellE hg ht _).1]; exact h1 i u hu
    · rw [(ho.cellE hg ht _).1, (ho.cellE hg ht _).2]; exact h2 i hi

theorem held_of_own {S : List Nat} {w' : World} {b0 base : Nat} {v : Value} {l : List Int} (h : w'.ownsRow b0 2 1 v l.length (l.map (Value.int .i64))) (hb : base ≤ b0) (hS : ∀ k, k ∈ S → k < b0) : Held w' S base v l := by
  have h' := h
  obtain ⟨_, ⟨hv, hn⟩ | ⟨g, cap, cur, hv, hg, hc, hn, _, hcs, ht⟩⟩ := h
  · exact .inl ⟨by rw [hv], List.eq_nil_of_length_eq_zero hn⟩
  · subst hv
    have hlt : g < w'.heap.size := by
      rcases Nat.lt_or_ge g w'.heap.size with a | a
      · exact a
      · rw [Array.getElem?_eq_none (by omega)] at hc; cases hc
    refine .inr ⟨g, 0, cap, rfl, by omega, hlt, fun hm => by have := hS g hm; omega, hn, fun i u hu => ?_, fun i hi => ?_⟩
    · have hi : i < l.length := (List.getElem?_eq_some_iff.1 hu).1
      rw [Nat.zero_add, World.ownsRow.cellAt h' i (by omega), List.getElem?_map, hu]; rfl
    · rw [Nat.zero_add]
      simp [World.cell?, World.frozen?, hc]
      omega

section
variable {P : Program} (w : World)
theorem run_append_held (S : List Nat) (base : Nat) (t ty : TypeId) (i0 : TypeInfo) (ht : P.underlying t = some (.slice 2)) (hi : P.info? 2 = some i0) (hz : i0.zero = some (.int .i64 0)) (hsize : i0.size = 1) (hby : i0.bytes = 8)
    (v : Value) (l : List Int) (hh : Held w S base v l) (a : Addr) (c : Nat) (x : Int) (hx : w.cell? (a.add 0) = some (.int .i64 x)) (hl : l.length ≤ 100000) (hbase : base ≤ w.heap.size) (hS : ∀ k, k ∈ S → k < w.heap.size) :
    ∃ v' w' T, (Builtin.append_ #[t, t] ty #[v, .slice (some a) 1 c]).run P w = .ok v' w' ∧ Held w' S base v' (l ++ [x]) ∧ Only T w w' ∧ ∀ k, k ∈ T → k ∉ S ∧ base ≤ k := by
  have hnews : ∀ j u, [Value.int .i64 x][j]? = some u → w.cell? (a.add j) = some u := by
    intro j u hj
    match j, hj with
    | 0, hj => simp at hj; subst hj; exact hx
  have h1 : ∀ u ∈ [Value.int .i64 x], u.oneCell' = true := by intro u hu; simp at hu; subst hu; rfl
  have own : ∀ (w' : World) (v' : Value), w'.ownsRow w.heap.size 2 1 v' (l.length + 1) (l.map (Value.int .i64) ++ [Value.int .i64 x]) → Held w' S base v' (l ++ [x]) := by
    intro w' v' ho
    refine held_of_own (b0 := w.heap.size) ?_ hbase hS
    rw [List.length_append, List.map_append]
    exact ho
  have gr : ∀ w', w.grownBy w' none → Only [] w w' := fun w' hg => ⟨hg.os, hg.tape, hg.output, hg.size, fun k hk _ => hg.block k hk (by simp)⟩
  rcases hh with ⟨rfl, rfl⟩ | ⟨g, off, cap, rfl, hb, hg, hn, hc, hc1, hc2⟩
  · obtain ⟨v', w', hr, o1, g1, -⟩ := run_append_own (P := P) w w.heap.size t ty 2 i0 (.int .i64 0) 1 8 ht hi hz hsize hby rfl (by decide) (.slice none 0 0) 0 [] (World.ownsRow_nil w _ _ _) a 1 c [.int .i64 x] rfl hnews h1 (by unfold maxLen; omega) (by omega) (Nat.le_refl _)
    exact ⟨v', w', [], hr, own w' v' o1, gr w' g1, by simp⟩
  · by_cases hroom : l.length + 1 ≤ cap
    · have hr := run_append_room_cells (P := P) w t ty 2 i0 ht hi g off l.length cap a 1 c [.int .i64 x] (by rw [hsize]; rfl) hnews h1 hroom
        (fun j hj => by simp at hj; subst hj; rw [hsize, Nat.mul_one]; exact (hc2 l.length (by omega)).1) (fun j hj => by simp at hj; subst hj; rw [hsize, Nat.mul_one]; exact (hc2 l.length (by omega)).2)
      rw [hsize, Nat.mul_one] at hr
      have ho : Only [g] w (w.setCells g (off + l.length) [.int .i64 x]) := (Only.refl _ _).setCell (by simp) _
      refine ⟨_, _, [g], hr, .inr ⟨g, off, cap, by simp, hb, Nat.lt_of_lt_of_le hg ho.size, hn, by simp; omega, fun i u hu => ?_, fun i hi => ?_⟩, ho, fun k hk => by simp at hk; subst hk; exact ⟨hn, hb⟩⟩
      · by_cases hil : i < l.length
        · rw [List.getElem?_append_left hil] at hu
          rw [World.cell?_setCells_out g _ _ _ _ (fun _ _ => Or.inl (by show off + i < off + l.length; omega))]
          exact hc1 i u hu
        · have hi2 : i < (l ++ [x]).length := (List.getElem?_eq_some_iff.1 hu).1
          have e : i = l.length := by simp at hi2; omega
          subst e
          simp at hu
          subst hu
          have := World.cell?_setCells_in g [.int .i64 x] (off + l.length) w (fun j hj => by simp at hj; subst hj; exact (hc2 l.length (by omega)).1) 0 (by simp)
          simpa using this
      · exact ⟨World.isSome_setCells g _ _ _ _ (hc2 i hi).1, by rw [World.frozen?_setCells]; exact (hc2 i hi).2⟩
    · obtain ⟨v', w', hr, o1, g1⟩ := run_append_arg_grows (P := P) w t ty 2 i0 (.int .i64 0) 1 8 ht hi hz hsize hby rfl (by decide) ⟨g, off, none⟩ l.length cap (l.map (Value.int .i64)) (by simp) (fun j u hj => by
          rw [List.getElem?_map] at hj
          cases hlj : l[j]? with
          | none => rw [hlj] at hj; cases hj
          | some y => rw [hlj] at hj; injection hj with hj; subst hj; rw [Addr.add_lit]; exact hc1 j y hlj) a 1 c [.int .i64 x] rfl hnews (by omega) (by unfold maxLen; omega) (by omega)
      exact ⟨v', w', [], hr, own w' v' o1, gr w' g1, by simp⟩

theorem wpList_append_held {ops : Array Oper} {rest : List Oper} {o : Oper} {a : Act} {Q : Exit → Act → World → Prop} (hgd : o.guard = none) (s x0 : Operand) (t : TypeId)
    (ho : o.op = .call { callee := .builtin .append, args := #[s, x0], argTypes := #[t, t] })
    (S : List Nat) (base : Nat) (i0 : TypeInfo) (ht : P.underlying t = some (.slice 2)) (hi : P.info? 2 = some i0) (hz : i0.zero = some (.int .i64 0)) (hsize : i0.size = 1) (hby : i0.bytes = 8)
    (v : Value) (l : List Int) (hs : a.eval s = v) (hh : Held w S base v l) (ad : Addr) (c : Nat) (x : Int) (hx0 : a.eval x0 = .slice (some ad) 1 c) (hx : w.cell? (ad.add 0) = some (.int .i64 x)) (hl : l.length ≤ 100000) (hbase : base ≤ w.heap.size) (hS : ∀ k, k ∈ S → k < w.heap.size)
    (h : ∀ v' w' T, Held w' S base v' (l ++ [x]) → Only T w w' → (∀ k, k ∈ T → k ∉ S ∧ base ≤ k) → wpList P ops Q rest (a.put o.dst v') w') : wpList P ops Q (o :: rest) a w := by
  refine wpList_plain hgd fun K hK => ?_
  obtain ⟨v', w', T, hr, h2, h3, h4⟩ := run_append_held (P := P) w S base t o.type i0 ht hi hz hsize hby v l hh ad c x hx hl hbase hS
  unfold Oper.wp execOp
  simp only [ho, resolve, invoke, builtin, Sem.run_bind, Sem.run_pure, Result.andThen_ok, List.map_toArray, List.map_cons, List.map_nil, hs, hx0, hr]
  exact hK _ _ (h v' w' T h2 h3 h4)
end

section
variable {w wr : World} {m a b d kind room N what : Nat} {l l0 : List Int} {used : Nat} {v : Value}

theorem DS.only {T : List Nat} {w1 : World} (h : DS w wr m a b d kind room N l used) (ho : Only T wr w1) (hT : ∀ k, k ∈ T → k ∉ [m, a, b, d] ∧ w.heap.size ≤ k) : DS w w1 m a b d kind room N l used := by
  obtain ⟨⟨D, hm, hD, hr⟩, hd, hb, h1, h2⟩ := h
  have nin : ∀ k, k ∈ [m, a, b, d] → k ∉ T := fun k hk ht => (hT k ht).1 hk
  exact ⟨⟨D, hm.only3 ho (nin _ (by simp)) (nin _ (by simp)) (nin _ (by simp)), hD, hr⟩, hd.only ho (nin _ (by simp)), below_only hb (Nat.le_refl _) ho (fun k hk => (hT k hk).2), h1, h2⟩
theorem DS.lt (h : DS w wr m a b d kind room N l used) : ∀ k, k ∈ [m, a, b, d] → k < wr.heap.size := by
  obtain ⟨⟨D, hm, hD, hr⟩, hd, hb, h1, h2⟩ := h
  obtain ⟨l1, l2, l3⟩ := hm.lt
  have := hd.lt
  intro k hk; simp at hk; omega

/-- A new operation beside what is held. -/
def NewH (w : World) (m a b d kind room N : Nat) (l : List Int) (used what : Nat) (x : Int) (v : Value) (l0 : List Int) (e : Ending) (w1 : World) : Prop :=
  ∃ o, e = .returned (.pointer (some ⟨o, 0, none⟩)) ∧ DSO w w1 m a b d kind room N l used o what x ∧ DS w w1 m a b d kind room N l used ∧ Held w1 [o, m, a, b, d] w.heap.size v l0 ∧ Held w1 [m, a, b, d] w.heap.size v l0

theorem DS.newH {x : Int} (h : DS w wr m a b d kind room N l used) (hh : Held wr [m, a, b, d] w.heap.size v l0) {e : Ending} {w1 : World} (hn : NewD ((DOp.new what x).prog kind 0 room) wr e w1) : NewH w m a b d kind room N l used what x v l0 e w1 := by
  obtain ⟨o, ho1, ho2⟩ := h.new hn
  obtain ⟨o', hp, hbo, hso, ho⟩ := hn
  rw [hp] at ho1
  injection ho1 with ho1; injection ho1 with ho1; injection ho1 with ho1; injection ho1 with ho1
  subst ho1
  exact ⟨o', hp, ho2, h.only ho (by simp), hh.only ho (by simp) (fun k hk => by simp at hk; rcases hk with rfl | hk; exact .inr hso; exact .inl (by simp; exact hk)), hh.only ho (by simp) (fun k hk => .inl hk)⟩
theorem DS.pushH (h : DS w wr m a b d kind room N l used) (hh : Held wr [m, a, b, d] w.heap.size v l0) (x : Int) (hk : kind = 1 ∨ kind = 2 ∨ kind = 3) :
    Calls Try.prog 19 #[.agg #[.int .i64 kind, .int .i64 0, .int .i64 room], .int .i64 x] wr (NewH w m a b d kind room N l used 0 x v l0) :=
  (dpush_any (kind := kind) (base := 0) (room := room) x wr hk).mono (fun _ _ hn => h.newH hh hn)
theorem DS.popH (h : DS w wr m a b d kind room N l used) (hh : Held wr [m, a, b, d] w.heap.size v l0) (hk : kind = 1 ∨ kind = 2 ∨ kind = 3) :
    Calls Try.prog 20 #[.agg #[.int .i64 kind, .int .i64 0, .int .i64 room]] wr (NewH w m a b d kind room N l used 1 0 v l0) :=
  (dpop_any (kind := kind) (base := 0) (room := room) wr hk).mono (fun _ _ hn => h.newH hh hn)
theorem DS.stealH (h : DS w wr m a b d kind room N l used) (hh : Held wr [m, a, b, d] w.heap.size v l0) (hk : kind = 1 ∨ kind = 2 ∨ kind = 3) :
    Calls Try.prog 21 #[.agg #[.int .i64 kind, .int .i64 0, .int .i64 room]] wr (NewH w m a b d kind room N l used 2 0 v l0) :=
  (dsteal_any (kind := kind) (base := 0) (room := room) wr hk).mono (fun _ _ hn => h.newH hh hn)

theorem DSO.runH {o : Nat} {x res why : Int} {l' : List Int} {used' : Nat} (h : DSO w wr m a b d kind room N l used o what x) (hh : Held wr [o, m, a, b, d] w.heap.size v l0) (hk : kind = 1 ∨ kind = 2 ∨ kind = 3) (hw : what ≤ 2) (hN : N ≤ 900000)
    (hr : ∀ D, Rep kind room l used D → Runs kind room D what x res why l' used') :
    Calls Try.prog 18 #[.pointer (some ⟨m, 0, none⟩), .pointer (some ⟨o, 0, none⟩)] wr (fun e w1 => e = .returned (.tuple #[.int .i64 res, .int .i64 why]) ∧ DS w w1 m a b d kind room (N + 20) l' used' ∧ Held w1 [m, a, b, d] w.heap.size v l0) := by
  obtain ⟨⟨D, hW, hD, hrep⟩, hd, hb, h1, h2, h3⟩ := h
  obtain ⟨r1, r2⟩ := hr D hrep
  have hroom : room ≤ 1000 := hW.h.hroom.2
  have hok := runN_ok kind room hk hroom 20 N D _ hD (DOp.new_ok kind room N what x hw)
  refine (run_any (DOp.new what x) hW hk hD (DOp.new_ok kind room N what x hw) hN).mono ?_
  rintro e w1 ⟨rfl, hw1⟩
  exact ⟨by rw [prog_tells, r1], ⟨⟨_, hw1.rest, hok.2, r2⟩, hd.only hw1.f (by simp; omega), below_only4 hb (Nat.le_refl _) hw1.f h3.1 h1.1 h1.2.1 h1.2.2, h1, h2⟩,
    hh.only hw1.f (fun k hk => .inl (by simp at hk ⊢; omega)) (fun k hk => .inl (by simp at hk ⊢; omega))⟩
end

end Go.Proofs.Ytlogmfpnjpamgaa
