/- Layer 10: a pool and its memory in a law's world, beside blocks of the law's own; each call, whatever it is told. -/
import Derived.Test.YtccadafajocbgaaPoolM
open Go Go.RowKit
namespace Go.Proofs.Ytccadafajocbgaa

/-- What a Take tells, and leaves. -/
def PS.take (S : PS) (M : MemS) (v c : Int) : (Int × Int) × PS × MemS :=
  if v < 0 ∨ S.W ≤ v ∨ c < 0 ∨ 3 ≤ c then ((0, 1), S, M)
  else match S.row (v.toNat * 4 + c.toNat) with
    | [] => ((0, 9), S, M)
    | x :: l => if M.tcode (S.blk x).pos (S.blk x).size true = 0 then ((x, 0), (S.setRow (v.toNat * 4 + c.toNat) l).setTaken x true, M.turn (S.blk x).pos (S.blk x).size true)
      else ((0, M.tcode (S.blk x).pos (S.blk x).size true), S, M)

/-- What a Give tells, and leaves. -/
def PS.give (S : PS) (M : MemS) (v x : Int) : Int × PS × MemS :=
  if v < 0 ∨ S.W ≤ v then (1, S, M)
  else if x < 1 ∨ S.blks.length < x then (12, S, M)
  else if (S.blk x).taken = false then (11, S, M)
  else if M.tcode (S.blk x).pos (S.blk x).size false = 0 then
    (0, if (S.blk x).owner = v.toNat then (S.setTaken x false).setRow (S.home x) (x :: S.row (S.home x)) else (S.setTaken x false).setRow (S.far x) (S.row (S.far x) ++ [x]), M.turn (S.blk x).pos (S.blk x).size false)
  else (M.tcode (S.blk x).pos (S.blk x).size false, S, M)

/-- What a Drain tells, and leaves. -/
def PS.drain (S : PS) (v : Int) : Int × PS :=
  if v < 0 ∨ S.W ≤ v then (0, S) else ((S.row (4 * v.toNat + 3)).length, S.drainS v.toNat)

/-- A pool at p that reads as S, over a memory that reads as M, in a world of a law that began at w0; the blocks of X are the law's own. -/
def PG (w0 : World) (X : Nat → Prop) (m a b p : Nat) (S : PS) (M : MemS) (w : World) : Prop :=
  ∃ L, L.p = p ∧ IsPool w w0.heap.size m L S ∧ IsMem w m a b M ∧ Below w0.heap.size w0 w ∧ (w0.heap.size ≤ m ∧ w0.heap.size ≤ a ∧ w0.heap.size ≤ b) ∧ (∀ k, L.own S.W k → ¬ X k) ∧ (¬ X m ∧ ¬ X a ∧ ¬ X b) ∧ ∀ k, X k → k < w.heap.size

section
variable {w0 w w' : World} {X : Nat → Prop} {m a b p : Nat} {S : PS} {M : MemS}

theorem PG.ok (h : PG w0 X m a b p S M w) : S.Ok := by obtain ⟨L, -, hP, -⟩ := h; exact hP.ok
theorem PG.below (h : PG w0 X m a b p S M w) : Below w0.heap.size w0 w := by obtain ⟨L, -, -, -, hB, -⟩ := h; exact hB
theorem PG.mem (h : PG w0 X m a b p S M w) : IsMem w m a b M := by obtain ⟨L, -, -, hM, -⟩ := h; exact hM
theorem PG.bound (h : PG w0 X m a b p S M w) : w0.heap.size ≤ m ∧ w0.heap.size ≤ a ∧ w0.heap.size ≤ b := by obtain ⟨L, -, -, -, -, hB, -⟩ := h; exact hB

/-- Behind a call: the pool reads as S', the memory as M', and the law's own blocks have not turned. -/
def PGPost (w0 : World) (X : Nat → Prop) (m a b p : Nat) (S' : PS) (M' : MemS) (w : World) (r : Value) (e : Ending) (w' : World) : Prop :=
  e = .returned r ∧ PG w0 X m a b p S' M' w' ∧ Turn (fun k => ¬ X k ∧ w0.heap.size ≤ k) w w'

/-- The law's own blocks turn, and others are made. -/
theorem PG.law {X' : Nat → Prop} (h : PG w0 X m a b p S M w) (ht : Turn X w w') (hX : ∀ k, X k → w0.heap.size ≤ k) (hX' : ∀ k, X' k → k < w'.heap.size ∧ (X k ∨ w.heap.size ≤ k)) : PG w0 X' m a b p S M w' := by
  obtain ⟨L, hp, hP, hM, hB, hb, h1, h2, h3⟩ := h
  have hml := hM.top.lt; have hal := hM.words.lt; have hbl := hM.live.lt
  refine ⟨L, hp, hP.turn ht (fun k hk => h1 k hk), hM.turn ht h2.1 h2.2.1 h2.2.2, hB.trans (ht.below hB.size hX), hb, ?_, ⟨?_, ?_, ?_⟩, fun k hk => (hX' k hk).1⟩
  · intro k hk hx
    rcases (hX' k hx).2 with q | q
    · exact h1 k hk q
    · have := (hP.lt hk).2; omega
  · exact fun hx => by rcases (hX' m hx).2 with q | q; exact h2.1 q; omega
  · exact fun hx => by rcases (hX' a hx).2 with q | q; exact h2.2.1 q; omega
  · exact fun hx => by rcases (hX' b hx).2 with q | q; exact h2.2.2 q; omega
/-- Nothing turns. -/
theorem PG.still (h : PG w0 X m a b p S M w) (ht : Turn (fun _ => False) w w') : PG w0 X m a b p S M w' := by
  obtain ⟨L, hp, hP, hM, hB, hb, h1, h2, h3⟩ := h
  exact ⟨L, hp, hP.turn ht (fun _ _ h => h), hM.turn ht (fun h => h) (fun h => h) (fun h => h), hB.trans (ht.below hB.size (fun _ h => h.elim)), hb, h1, h2, fun k hk => Nat.lt_of_lt_of_le (h3 k hk) ht.size⟩
theorem PG.drewN (h : PG w0 X m a b p S M w) (n : Nat) : PG w0 X m a b p S M (w.drewN n) := h.still ((Turn.refl _ w).drewN n)
theorem PG.drew (h : PG w0 X m a b p S M w) : PG w0 X m a b p S M w.drew := h.still ((Turn.refl _ w).drew)
theorem PG.alloc (h : PG w0 X m a b p S M w) (o : Obj) : PG w0 X m a b p S M (w.alloc o) := h.still ((Turn.refl _ w).alloc o)

theorem PG.same (h : PG w0 X m a b p S M w) (r : Value) : PGPost w0 X m a b p S M w r (.returned r) w := ⟨rfl, h, Turn.refl _ _⟩
theorem PG.stillPost (h : PG w0 X m a b p S M w) (ht : Turn (fun _ => False) w w') (r : Value) : PGPost w0 X m a b p S M w r (.returned r) w' :=
  ⟨rfl, h.still ht, ht.mono (fun _ h => h.elim)⟩

theorem PG.pools {L : PLay} {S' : PS} {M' : MemS} {r : Value} (hp : L.p = p) (hP : IsPool w w0.heap.size m L S) (hM : IsMem w m a b M) (hB : Below w0.heap.size w0 w) (hb : w0.heap.size ≤ m ∧ w0.heap.size ≤ a ∧ w0.heap.size ≤ b) (h1 : ∀ k, L.own S.W k → ¬ X k) (h2 : ¬ X m ∧ ¬ X a ∧ ¬ X b) (h3 : ∀ k, X k → k < w.heap.size)
    {e : Ending} (h : PoolPost w w0.heap.size m a b L S S' M' r e w') : PGPost w0 X m a b p S' M' w r e w' := by
  obtain ⟨rfl, L', hh⟩ := h
  have hF : ∀ k, (k ∈ [m, a, b] ∨ L.own S.W k) → w0.heap.size ≤ k ∧ ¬ X k := by
    rintro k (hk | hk)
    · simp at hk
      rcases hk with rfl | rfl | rfl
      · exact ⟨hb.1, h2.1⟩
      · exact ⟨hb.2.1, h2.2.1⟩
      · exact ⟨hb.2.2, h2.2.2⟩
    · exact ⟨(hP.lt hk).1, h1 k hk⟩
  refine ⟨rfl, ⟨L', hh.p.trans hp, hh.pool, hh.mem, hB.trans (hh.turn.below hB.size (fun k hk => (hF k hk).1)), hb, fun k hk hx => ?_, h2, fun k hk => Nat.lt_of_lt_of_le (h3 k hk) hh.turn.size⟩, hh.turn.mono (fun k hk => .inl ⟨(hF k hk).2, (hF k hk).1⟩)⟩
  rcases hh.own k hk with q | q
  · exact h1 k q hx
  · have := h3 k hx; omega

theorem PG.take (h : PG w0 X m a b p S M w) (v c : Int) : Calls Try.prog 15 #[.pointer (some ⟨p, 0, none⟩), .int .i64 v, .int .i64 c] w
    (PGPost w0 X m a b p (S.take M v c).2.1 (S.take M v c).2.2 w (.tuple #[.int .i64 (S.take M v c).1.1, .int .i64 (S.take M v c).1.2])) := by
  have hh := h
  obtain ⟨L, hp, hP, hM, hB, hb, h1, h2, h3⟩ := h
  rw [← hp]
  by_cases ho : v < 0 ∨ S.W ≤ v ∨ c < 0 ∨ 3 ≤ c
  · rw [show S.take M v c = ((0, 1), S, M) from if_pos ho]
    refine (take_out hP v c ho).mono ?_
    rintro e w' ⟨rfl, rfl⟩
    exact (hp ▸ hh.same _)
  · obtain ⟨q, rfl⟩ : ∃ q : Nat, v = q := ⟨v.toNat, by omega⟩
    obtain ⟨y, rfl⟩ : ∃ y : Nat, c = y := ⟨c.toNat, by omega⟩
    have hq : q < S.W := by omega
    have hy : y < 3 := by omega
    have e4 : 4 * q + y = q * 4 + y := by omega
    cases hr : S.row (q * 4 + y) with
    | nil =>
      have e : S.take M q y = ((0, 9), S, M) := by unfold PS.take; rw [if_neg ho]; simp only [Int.toNat_natCast, hr]
      rw [e]
      refine (take_empty hP q y hq hy (by rw [e4]; exact hr)).mono ?_
      rintro e w' ⟨rfl, rfl⟩
      exact (hp ▸ hh.same _)
    | cons x l =>
      obtain ⟨g, cap, bk, bc, z, ht⟩ := take_at hP hM q y hq hy x l (by rw [e4]; exact hr)
      by_cases hc : M.tcode (S.blk x).pos (S.blk x).size true = 0
      · have e : S.take M q y = ((x, 0), (S.setRow (q * 4 + y) l).setTaken x true, M.turn (S.blk x).pos (S.blk x).size true) := by
          unfold PS.take; rw [if_neg ho]; simp only [Int.toNat_natCast, hr, if_pos hc]
        rw [e]
        refine (take_ok ht hc).mono ?_
        exact fun e w' hpo => hp ▸ PG.pools rfl hP hM hB hb h1 h2 h3 hpo
      · have e : S.take M q y = ((0, M.tcode (S.blk x).pos (S.blk x).size true), S, M) := by
          unfold PS.take; rw [if_neg ho]; simp only [Int.toNat_natCast, hr, if_neg hc]
        rw [e]
        refine (take_fail ht hc).mono ?_
        exact fun e w' hpo => hp ▸ PG.pools rfl hP hM hB hb h1 h2 h3 hpo

theorem PG.give (h : PG w0 X m a b p S M w) (v x : Int) : Calls Try.prog 17 #[.pointer (some ⟨p, 0, none⟩), .int .i64 v, .int .i64 x] w
    (PGPost w0 X m a b p (S.give M v x).2.1 (S.give M v x).2.2 w (.int .i64 (S.give M v x).1)) := by
  have hh := h
  obtain ⟨L, hp, hP, hM, hB, hb, h1, h2, h3⟩ := h
  rw [← hp]
  by_cases ho : v < 0 ∨ S.W ≤ v
  · rw [show S.give M v x = (1, S, M) from if_pos ho]
    refine (give_out hP v x ho).mono ?_
    rintro e w' ⟨rfl, rfl⟩
    exact (hp ▸ hh.same _)
  · obtain ⟨q, rfl⟩ : ∃ q : Nat, v = q := ⟨v.toNat, by omega⟩
    have hq : q < S.W := by omega
    by_cases hx : x < 1 ∨ S.blks.length < x
    · have e : S.give M q x = (12, S, M) := by unfold PS.give; rw [if_neg ho, if_pos hx]
      rw [e]
      refine (give_none hP q x hq (fun ht => by have := ht.1; have := ht.2; omega)).mono ?_
      rintro e w' ⟨rfl, rfl⟩
      exact (hp ▸ hh.same _)
    · have ht : S.there x := ⟨by omega, by omega⟩
      by_cases hk : (S.blk x).taken = false
      · have e : S.give M q x = (11, S, M) := by unfold PS.give; rw [if_neg ho, if_neg hx, if_pos hk]
        rw [e]
        refine (give_state hP q x hq ht hk).mono ?_
        rintro e w' ⟨rfl, rfl⟩
        exact (hp ▸ hh.same _)
      · have hk' : (S.blk x).taken = true := by simpa using hk
        by_cases hc : M.tcode (S.blk x).pos (S.blk x).size false = 0
        · by_cases hw : (S.blk x).owner = q
          · have e : S.give M q x = (0, (S.setTaken x false).setRow (S.home x) (x :: S.row (S.home x)), M.turn (S.blk x).pos (S.blk x).size false) := by
              unfold PS.give; rw [if_neg ho, if_neg hx, if_neg hk, if_pos hc, if_pos (by simpa using hw)]
            rw [e]
            subst hw
            obtain ⟨bk, bc, z, ha⟩ := give_at hP hM hq ht hk'
            refine (give_home ha hc hB.size).mono ?_
            exact fun e w' hpo => hp ▸ PG.pools rfl hP hM hB hb h1 h2 h3 hpo
          · have e : S.give M q x = (0, (S.setTaken x false).setRow (S.far x) (S.row (S.far x) ++ [x]), M.turn (S.blk x).pos (S.blk x).size false) := by
              unfold PS.give; rw [if_neg ho, if_neg hx, if_neg hk, if_pos hc, if_neg (by simpa using hw)]
            rw [e]
            obtain ⟨bk, bc, z, ha⟩ := give_at hP hM hq ht hk'
            refine (give_far ha hw hc hB.size).mono ?_
            exact fun e w' hpo => hp ▸ PG.pools rfl hP hM hB hb h1 h2 h3 hpo
        · have e : S.give M q x = (M.tcode (S.blk x).pos (S.blk x).size false, S, M) := by
            unfold PS.give; rw [if_neg ho, if_neg hx, if_neg hk, if_neg hc]
          rw [e]
          obtain ⟨bk, bc, z, ha⟩ := give_at hP hM hq ht hk'
          refine (give_fail ha hc).mono ?_
          exact fun e w' hpo => hp ▸ PG.pools rfl hP hM hB hb h1 h2 h3 hpo

theorem PG.drain (h : PG w0 X m a b p S M w) (v : Int) : Calls Try.prog 19 #[.pointer (some ⟨p, 0, none⟩), .int .i64 v] w
    (PGPost w0 X m a b p (S.drain v).2 M w (.int .i64 (S.drain v).1)) := by
  have hh := h
  obtain ⟨L, hp, hP, hM, hB, hb, h1, h2, h3⟩ := h
  rw [← hp]
  by_cases ho : v < 0 ∨ S.W ≤ v
  · rw [show S.drain v = (0, S) from if_pos ho]
    refine (drain_out hP v ho).mono ?_
    rintro e w' ⟨rfl, rfl⟩
    exact (hp ▸ hh.same _)
  · obtain ⟨q, rfl⟩ : ∃ q : Nat, v = q := ⟨v.toNat, by omega⟩
    rw [show S.drain (q : Int) = (((S.row (4 * q + 3)).length : Int), S.drainS q) from if_neg ho]
    refine (drain_in hP hM (by omega) hB.size).mono ?_
    exact fun e w' hpo => hp ▸ PG.pools rfl hP hM hB hb h1 h2 h3 hpo

theorem PG.where_ (h : PG w0 X m a b p S M w) (x : Int) : Calls Try.prog 24 #[.pointer (some ⟨p, 0, none⟩), .int .i64 x] w (PGPost w0 X m a b p S M w (.tuple (S.whereV x))) := by
  have hh := h
  obtain ⟨L, hp, hP, hM, hB, hb, h1, h2, h3⟩ := h
  rw [← hp]
  refine (where_any hP x).mono ?_
  rintro e w' ⟨rfl, ht⟩
  exact (hp ▸ hh.stillPost ht _)
theorem PG.free (h : PG w0 X m a b p S M w) (v c : Int) : Calls Try.prog 25 #[.pointer (some ⟨p, 0, none⟩), .int .i64 v, .int .i64 c] w fun e w' => e = .returned (.int .i64 (S.many v c)) ∧ w = w' := by
  obtain ⟨L, hp, hP, -⟩ := h
  rw [← hp]
  exact free_rows hP v c
theorem PG.remote (h : PG w0 X m a b p S M w) (v : Int) : Calls Try.prog 26 #[.pointer (some ⟨p, 0, none⟩), .int .i64 v] w fun e w' => e = .returned (.int .i64 (S.manyR v)) ∧ w = w' := by
  obtain ⟨L, hp, hP, -⟩ := h
  rw [← hp]
  exact remote_rows hP v
theorem PG.home (h : PG w0 X m a b p S M w) : Calls Try.prog 23 #[.pointer (some ⟨p, 0, none⟩)] w fun e w' => (∃ r : Bool, e = .returned (.bool r) ∧ (r = true ↔ S.isHome)) ∧ PG w0 X m a b p S M w' ∧ Turn (fun _ => False) w w' := by
  have hh := h
  obtain ⟨L, hp, hP, -⟩ := h
  rw [← hp]
  refine (home_any hP).mono ?_
  rintro e w' ⟨h1, ht⟩
  exact ⟨h1, hp ▸ hh.still ht, ht⟩

/-! the memory beside it -/
theorem PG.only {M' : MemS} (h : PG w0 X m a b p S M w) (hM' : IsMem w' m a b M') (ho : Only [m, a, b] w w') : PG w0 X m a b p S M' w' ∧ Turn (fun k => ¬ X k ∧ w0.heap.size ≤ k) w w' := by
  obtain ⟨L, hp, hP, hM, hB, hb, h1, h2, h3⟩ := h
  have hF : ∀ k, k ∈ [m, a, b] → w0.heap.size ≤ k ∧ ¬ X k := by
    intro k hk
    simp at hk
    rcases hk with rfl | rfl | rfl
    · exact ⟨hb.1, h2.1⟩
    · exact ⟨hb.2.1, h2.2.1⟩
    · exact ⟨hb.2.2, h2.2.2⟩
  exact ⟨⟨L, hp, hP.onlyM hM ho, hM', hB.trans (ho.below hB.size (fun k hk => (hF k hk).1)), hb, h1, h2, fun k hk => Nat.lt_of_lt_of_le (h3 k hk) ho.size⟩, (Turn.of_only ho).mono (fun k hk => .inl ⟨(hF k hk).2, (hF k hk).1⟩)⟩
end

/-- A pool that is made. -/
theorem PG.new {w0 w : World} {X : Nat → Prop} {m a b : Nat} {M : MemS} (base : Nat) (s : Shp) (h : s.Right) (hl : s.ws 3 ≤ 65536) (hM : IsMem w m a b M) (hb : base + s.ws 3 ≤ M.words.length) (hB : Below w0.heap.size w0 w) (hbd : w0.heap.size ≤ m ∧ w0.heap.size ≤ a ∧ w0.heap.size ≤ b) (h2 : ¬ X m ∧ ¬ X a ∧ ¬ X b) (h3 : ∀ k, X k → k < w.heap.size) :
    Calls Try.prog 12 #[.pointer (some ⟨m, 0, none⟩), .int .i64 base, s.val] w fun e w' => ∃ p, e = .returned (.tuple #[.pointer (some ⟨p, 0, none⟩), .int .i64 0]) ∧ PG w0 X m a b p (s.at_ base (s.off 3)) M w' ∧ Turn (fun _ => False) w w' := by
  refine (new_good base s h hl w hM hb w0.heap.size hB.size).mono ?_
  rintro e w' ⟨L, rfl, hP, ht, ho⟩
  exact ⟨L.p, rfl, ⟨L, rfl, hP, hM.turn ht (fun h => h) (fun h => h) (fun h => h), hB.trans (ht.below hB.size (fun _ h => h.elim)), hbd, fun k hk hx => by have := h3 k hx; have := ho k hk; omega, h2, fun k hk => Nat.lt_of_lt_of_le (h3 k hk) ht.size⟩, ht⟩

end Go.Proofs.Ytccadafajocbgaa
