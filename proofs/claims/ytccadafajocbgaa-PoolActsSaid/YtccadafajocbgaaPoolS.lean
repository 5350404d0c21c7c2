/- Layer 10, plain: a block's words are live just while it is taken; what is told then. -/
import Derived.Test.YtccadafajocbgaaPoolO
open Go Go.RowKit
namespace Go.Proofs.Ytccadafajocbgaa

/-- Each block's words lie in the memory, apart from all others', and are live just while it is taken. -/
structure LI (S : PS) (M : MemS) : Prop where
  ok : S.Ok
  len : M.live.length = M.words.length
  room : ∀ x, S.there x → 1 ≤ (S.blk x).size ∧ (S.blk x).pos + (S.blk x).size ≤ M.words.length
  live : ∀ x, S.there x → ∀ j, (S.blk x).pos ≤ j → j < (S.blk x).pos + (S.blk x).size → M.live.getD j false = (S.blk x).taken
  apart : ∀ x y, S.there x → S.there y → x ≠ y → (S.blk x).pos + (S.blk x).size ≤ (S.blk y).pos ∨ (S.blk y).pos + (S.blk y).size ≤ (S.blk x).pos

section
variable {S : PS} {M : MemS}

theorem LI.tcode (h : LI S M) {x : Int} (hx : S.there x) {t : Bool} (ht : (S.blk x).taken = !t) : M.tcode (S.blk x).pos (S.blk x).size t = 0 :=
  MemS.tcode_zero h.len (h.room x hx).2 (fun j h1 h2 => by rw [h.live x hx j h1 h2, ht]; cases t <;> simp)

/-- A block's flag turns, and its words with it. -/
theorem LI.flag (h : LI S M) {x : Int} (hx : S.there x) {t : Bool} (ht : (S.blk x).taken = !t) {S' : PS} (ok' : S'.Ok) (hl : S'.blks = (S.setTaken x t).blks) : LI S' (M.turn (S.blk x).pos (S.blk x).size t) := by
  have e := MemS.turn_eq (h.tcode hx ht)
  rw [e]
  have hb : ∀ y, S'.blk y = (S.setTaken x t).blk y := fun y => by unfold PS.blk; rw [hl]
  have hth : ∀ y, S'.there y ↔ S.there y := fun y => by unfold PS.there; rw [hl, PS.setTaken_len]
  have pl : ∀ y, S.there y → (S'.blk y).pos = (S.blk y).pos ∧ (S'.blk y).size = (S.blk y).size := fun y hy => by rw [hb]; exact ⟨(PS.setTaken_place t hx hy.1).2.2.1, (PS.setTaken_place t hx hy.1).2.2.2⟩
  have hroom := h.room x hx
  refine ⟨ok', MemS.fill_len _ _ _ _ h.len, ?_, ?_, ?_⟩
  · intro y hy
    have hy := (hth y).1 hy
    rw [(pl y hy).1, (pl y hy).2, MemS.fill_words]
    exact h.room y hy
  · intro y hy j h1 h2
    have hy := (hth y).1 hy
    rw [(pl y hy).1] at h1 h2
    rw [(pl y hy).2] at h2
    rw [MemS.fill_live _ _ _ _ _ (by rw [h.len]; exact hroom.2), hb, PS.setTaken_taken t hx hy.1]
    by_cases e : y = x
    · subst e
      rw [if_pos ⟨h1, h2⟩, if_pos rfl]
    · have := h.apart x y hx hy (Ne.symm e)
      rw [if_neg (by omega), if_neg e]
      exact h.live y hy j h1 h2
  · intro y z hy hz hyz
    have hy := (hth y).1 hy
    have hz := (hth z).1 hz
    rw [(pl y hy).1, (pl y hy).2, (pl z hz).1, (pl z hz).2]
    exact h.apart y z hy hz hyz

/-- What a Take tells where the memory bears it. -/
def PS.takeR (S : PS) (v c : Int) : Int × Int :=
  if v < 0 ∨ S.W ≤ v ∨ c < 0 ∨ 3 ≤ c then (0, 1) else match S.row (v.toNat * 4 + c.toNat) with | [] => (0, 9) | x :: _ => (x, 0)
/-- What it leaves. -/
def PS.takeS (S : PS) (v c : Int) : PS :=
  if v < 0 ∨ S.W ≤ v ∨ c < 0 ∨ 3 ≤ c then S else match S.row (v.toNat * 4 + c.toNat) with | [] => S | x :: l => (S.setRow (v.toNat * 4 + c.toNat) l).setTaken x true
def PS.giveR (S : PS) (v x : Int) : Int :=
  if v < 0 ∨ S.W ≤ v then 1 else if x < 1 ∨ S.blks.length < x then 12 else if (S.blk x).taken = false then 11 else 0
def PS.giveS (S : PS) (v x : Int) : PS :=
  if v < 0 ∨ S.W ≤ v then S else if x < 1 ∨ S.blks.length < x then S else if (S.blk x).taken = false then S else
    if (S.blk x).owner = v.toNat then (S.setTaken x false).setRow (S.home x) (x :: S.row (S.home x)) else (S.setTaken x false).setRow (S.far x) (S.row (S.far x) ++ [x])

theorem LI.take (h : LI S M) (v c : Int) : (S.take M v c).1 = S.takeR v c ∧ (S.take M v c).2.1 = S.takeS v c ∧ LI (S.takeS v c) (S.take M v c).2.2 := by
  unfold PS.take PS.takeR PS.takeS
  by_cases ho : v < 0 ∨ S.W ≤ v ∨ c < 0 ∨ 3 ≤ c
  · rw [if_pos ho, if_pos ho, if_pos ho]; exact ⟨rfl, rfl, h⟩
  · rw [if_neg ho, if_neg ho, if_neg ho]
    cases hr : S.row (v.toNat * 4 + c.toNat) with
    | nil => exact ⟨rfl, rfl, h⟩
    | cons x l =>
      have hk : v.toNat * 4 + c.toNat < 4 * S.W := by omega
      obtain ⟨hx, ht, -⟩ := h.ok.mem _ hk x (by rw [hr]; simp)
      simp only []
      rw [if_pos (h.tcode hx (t := true) ht)]
      exact ⟨rfl, rfl, h.flag hx (t := true) ht (h.ok.pull hk hr) rfl⟩

theorem LI.give (h : LI S M) (v x : Int) : (S.give M v x).1 = S.giveR v x ∧ (S.give M v x).2.1 = S.giveS v x ∧ LI (S.giveS v x) (S.give M v x).2.2 := by
  unfold PS.give PS.giveR PS.giveS
  by_cases h1 : v < 0 ∨ S.W ≤ v
  · rw [if_pos h1, if_pos h1, if_pos h1]; exact ⟨rfl, rfl, h⟩
  · rw [if_neg h1, if_neg h1, if_neg h1]
    by_cases h2 : x < 1 ∨ S.blks.length < x
    · rw [if_pos h2, if_pos h2, if_pos h2]; exact ⟨rfl, rfl, h⟩
    · rw [if_neg h2, if_neg h2, if_neg h2]
      by_cases h3 : (S.blk x).taken = false
      · rw [if_pos h3, if_pos h3, if_pos h3]; exact ⟨rfl, rfl, h⟩
      · rw [if_neg h3, if_neg h3, if_neg h3]
        have hx : S.there x := ⟨by omega, by omega⟩
        have ht : (S.blk x).taken = !false := by simpa using h3
        rw [if_pos (h.tcode hx ht)]
        refine ⟨rfl, rfl, ?_⟩
        have hbut := h.ok.give hx ht
        have hx' : (S.setTaken x false).there x := PS.setTaken_there.2 hx
        have e1 := PS.setTaken_home false hx hx.1
        have e2 := PS.setTaken_far false hx hx.1
        have hlt := hbut.home_lt hx'
        rw [e1, e2] at hlt
        split
        · refine h.flag hx ht ((hbut.put (k := S.home x) (.inl e1.symm) (l' := x :: S.row (S.home x)) (fun y => by simp [PS.setTaken]) (List.nodup_cons.2 ⟨fun hm => ?_, h.ok.nodup _ hlt.1⟩)).ok) rfl
          exact (hbut.mem _ hlt.1 x hm).2.2.2 (by simp)
        · refine h.flag hx ht ((hbut.put (k := S.far x) (.inr e2.symm) (l' := S.row (S.far x) ++ [x]) (fun y => by simp [PS.setTaken, or_comm]) (List.nodup_append.2 ⟨h.ok.nodup _ hlt.2.1, by simp, fun a ha b hb e => ?_⟩)).ok) rfl
          simp at hb
          subst hb; subst e
          exact (hbut.mem _ hlt.2.1 a ha).2.2.2 (by simp)

theorem LI.drain (h : LI S M) (v : Int) : LI (S.drain v).2 M := by
  unfold PS.drain
  by_cases h1 : v < 0 ∨ S.W ≤ v
  · rw [if_pos h1]; exact h
  · rw [if_neg h1]
    have hb : (S.drainS v.toNat).blks = S.blks := (PS.homeAll_same _ S).2
    have e1 : ∀ y, (S.drainS v.toNat).blk y = S.blk y := fun y => by unfold PS.blk; rw [hb]
    have e2 : ∀ y, (S.drainS v.toNat).there y ↔ S.there y := fun y => by unfold PS.there; rw [hb]
    exact ⟨h.ok.drain (by omega), h.len, fun x hx => by rw [e1]; exact h.room x ((e2 x).1 hx), fun x hx j h1 h2 => by rw [e1] at h1 h2 ⊢; exact h.live x ((e2 x).1 hx) j h1 h2,
      fun x y hx hy hxy => by rw [e1, e1]; exact h.apart x y ((e2 x).1 hx) ((e2 y).1 hy) hxy⟩

theorem LI.store (h : LI S M) (at_ n : Int) : LI S (M.store at_ n) := by
  unfold MemS.store
  split
  · exact ⟨h.ok, by simpa [MemS.put, MemS.tick] using h.len, fun x hx => by simpa [MemS.put, MemS.tick] using h.room x hx, h.live, h.apart⟩
  · exact h
theorem LI.load (h : LI S M) (at_ : Int) : LI S (M.load at_) := by
  unfold MemS.load
  split
  · exact ⟨h.ok, h.len, h.room, h.live, h.apart⟩
  · exact h

theorem Shp.place_mono {s : Shp} {base : Nat} {i j : Nat} (hij : i < j) (hj : j < s.off 3) : (s.place base i).pos + (s.place base i).size ≤ (s.place base j).pos := by
  obtain ⟨a1, a2, a3⟩ := Shp.cl_spec (s := s) (j := i) (by omega)
  obtain ⟨b1, b2, b3⟩ := Shp.cl_spec (s := s) (j := j) hj
  have hcc : s.cl i ≤ s.cl j := by
    rcases Nat.lt_or_ge (s.cl j) (s.cl i) with h | h
    · have := s.off_mono (show s.cl j + 1 ≤ s.cl i by omega); omega
    · exact h
  unfold Shp.place
  simp only []
  generalize s.cl i = c at *
  generalize s.cl j = d at *
  by_cases e : c = d
  · subst e
    have : (i - s.off c + 1) * s.z c ≤ (j - s.off c) * s.z c := Nat.mul_le_mul_right _ (by omega)
    rw [Nat.succ_mul] at this
    omega
  · have h1 := s.ws_mono (show c + 1 ≤ d by omega)
    rw [Shp.ws] at h1
    rw [Shp.off] at a3
    have : (i - s.off c + 1) * s.z c ≤ s.W * s.n c * s.z c := Nat.mul_le_mul_right _ (by omega)
    rw [Nat.succ_mul] at this
    omega
theorem Shp.place_end {s : Shp} {base : Nat} {j : Nat} (hj : j < s.off 3) : (s.place base j).pos + (s.place base j).size ≤ base + s.ws 3 := by
  obtain ⟨b1, b2, b3⟩ := Shp.cl_spec (s := s) (j := j) hj
  unfold Shp.place
  simp only []
  generalize s.cl j = d at *
  have h1 := s.ws_mono (show d + 1 ≤ 3 by omega)
  rw [Shp.ws] at h1
  rw [Shp.off] at b3
  have : (j - s.off d + 1) * s.z d ≤ s.W * s.n d * s.z d := Nat.mul_le_mul_right _ (by omega)
  rw [Nat.succ_mul] at this
  omega

/-- As it begins. -/
theorem LI.fresh {s : Shp} (h : s.Right) {base n : Nat} (hb : base + s.ws 3 ≤ n) (hn : n ≤ 65536) : LI (s.at_ base (s.off 3)) (MemS.fresh n) := by
  have e : ∀ x, (s.at_ base (s.off 3)).there x → (s.at_ base (s.off 3)).blk x = s.place base (x - 1).toNat ∧ (x - 1).toNat < s.off 3 := fun x hx => by
    have := Shp.at_there.1 hx
    exact ⟨Shp.at_blk this.1 this.2, by omega⟩
  refine ⟨Shp.made_ok h (by omega), MemS.fresh_len n, fun x hx => ?_, fun x hx j h1 h2 => ?_, fun x y hx hy hxy => ?_⟩
  · obtain ⟨e1, e2⟩ := e x hx
    rw [e1, MemS.fresh_words]
    have := Shp.place_end (s := s) (base := base) e2
    refine ⟨?_, by omega⟩
    have := (h.z1 (s.cl (x - 1).toNat) (Shp.cl_spec e2).1).1
    exact this
  · rw [MemS.fresh_live, (e x hx).1]; rfl
  · obtain ⟨e1, e2⟩ := e x hx
    obtain ⟨e3, e4⟩ := e y hy
    rw [e1, e3]
    have h1 := Shp.at_there.1 hx
    have h2 := Shp.at_there.1 hy
    rcases Nat.lt_or_ge (x - 1).toNat (y - 1).toNat with q | q
    · exact .inl (Shp.place_mono q e4)
    · exact .inr (Shp.place_mono (by omega) e2)
end

/-! a pool of a law's, whose blocks are live just while they are taken -/
section
variable {w0 w w' : World} {X : Nat → Prop} {m a b p : Nat} {S : PS}

/-- A pool at p that reads as S, whatever the words are that its memory holds. -/
def PL (w0 : World) (X : Nat → Prop) (m a b p : Nat) (S : PS) (w : World) : Prop := ∃ M, PG w0 X m a b p S M w ∧ LI S M
def PLPost (w0 : World) (X : Nat → Prop) (m a b p : Nat) (S' : PS) (w : World) (r : Value) (e : Ending) (w' : World) : Prop :=
  e = .returned r ∧ PL w0 X m a b p S' w' ∧ Turn (fun k => ¬ X k ∧ w0.heap.size ≤ k) w w'

theorem PL.ok (h : PL w0 X m a b p S w) : S.Ok := by obtain ⟨M, h, -⟩ := h; exact h.ok
theorem PL.below (h : PL w0 X m a b p S w) : Below w0.heap.size w0 w := by obtain ⟨M, h, -⟩ := h; exact h.below
theorem PL.take (h : PL w0 X m a b p S w) (v c : Int) : Calls Try.prog 15 #[.pointer (some ⟨p, 0, none⟩), .int .i64 v, .int .i64 c] w (PLPost w0 X m a b p (S.takeS v c) w (.tuple #[.int .i64 (S.takeR v c).1, .int .i64 (S.takeR v c).2])) := by
  obtain ⟨M, h, hl⟩ := h
  obtain ⟨e1, e2, e3⟩ := hl.take v c
  refine (h.take v c).mono ?_
  rintro e w' ⟨rfl, h1, h2⟩
  rw [e1]
  rw [e2] at h1
  exact ⟨rfl, ⟨_, h1, e3⟩, h2⟩
theorem PL.give (h : PL w0 X m a b p S w) (v x : Int) : Calls Try.prog 17 #[.pointer (some ⟨p, 0, none⟩), .int .i64 v, .int .i64 x] w (PLPost w0 X m a b p (S.giveS v x) w (.int .i64 (S.giveR v x))) := by
  obtain ⟨M, h, hl⟩ := h
  obtain ⟨e1, e2, e3⟩ := hl.give v x
  refine (h.give v x).mono ?_
  rintro e w' ⟨rfl, h1, h2⟩
  rw [e1]
  rw [e2] at h1
  exact ⟨rfl, ⟨_, h1, e3⟩, h2⟩
theorem PL.drain (h : PL w0 X m a b p S w) (v : Int) : Calls Try.prog 19 #[.pointer (some ⟨p, 0, none⟩), .int .i64 v] w (PLPost w0 X m a b p (S.drain v).2 w (.int .i64 (S.drain v).1)) := by
  obtain ⟨M, h, hl⟩ := h
  refine (h.drain v).mono ?_
  rintro e w' ⟨rfl, h1, h2⟩
  exact ⟨rfl, ⟨_, h1, hl.drain v⟩, h2⟩
theorem PL.where_ (h : PL w0 X m a b p S w) (x : Int) : Calls Try.prog 24 #[.pointer (some ⟨p, 0, none⟩), .int .i64 x] w (PLPost w0 X m a b p S w (.tuple (S.whereV x))) := by
  obtain ⟨M, h, hl⟩ := h
  refine (h.where_ x).mono ?_
  rintro e w' ⟨rfl, h1, h2⟩
  exact ⟨rfl, ⟨_, h1, hl⟩, h2⟩
theorem PL.free (h : PL w0 X m a b p S w) (v c : Int) : Calls Try.prog 25 #[.pointer (some ⟨p, 0, none⟩), .int .i64 v, .int .i64 c] w fun e w' => e = .returned (.int .i64 (S.many v c)) ∧ w = w' := by
  obtain ⟨M, h, hl⟩ := h; exact h.free v c
theorem PL.remote (h : PL w0 X m a b p S w) (v : Int) : Calls Try.prog 26 #[.pointer (some ⟨p, 0, none⟩), .int .i64 v] w fun e w' => e = .returned (.int .i64 (S.manyR v)) ∧ w = w' := by
  obtain ⟨M, h, hl⟩ := h; exact h.remote v
theorem PL.home (h : PL w0 X m a b p S w) : Calls Try.prog 23 #[.pointer (some ⟨p, 0, none⟩)] w fun e w' => (∃ r : Bool, e = .returned (.bool r) ∧ (r = true ↔ S.isHome)) ∧ PL w0 X m a b p S w' ∧ Turn (fun _ => False) w w' := by
  obtain ⟨M, h, hl⟩ := h
  exact h.home.mono fun e w' ⟨h1, h2, h3⟩ => ⟨h1, ⟨_, h2, hl⟩, h3⟩
theorem PL.still (h : PL w0 X m a b p S w) (ht : Turn (fun _ => False) w w') : PL w0 X m a b p S w' := by
  obtain ⟨M, h, hl⟩ := h; exact ⟨M, h.still ht, hl⟩
theorem PL.drew (h : PL w0 X m a b p S w) : PL w0 X m a b p S w.drew := h.still ((Turn.refl _ w).drew)
theorem PL.drewN (h : PL w0 X m a b p S w) (n : Nat) : PL w0 X m a b p S (w.drewN n) := h.still ((Turn.refl _ w).drewN n)
theorem PL.alloc (h : PL w0 X m a b p S w) (o : Obj) : PL w0 X m a b p S (w.alloc o) := h.still ((Turn.refl _ w).alloc o)
theorem PL.law {X' : Nat → Prop} (h : PL w0 X m a b p S w) (ht : Turn X w w') (hX : ∀ k, X k → w0.heap.size ≤ k) (hX' : ∀ k, X' k → k < w'.heap.size ∧ (X k ∨ w.heap.size ≤ k)) : PL w0 X' m a b p S w' := by
  obtain ⟨M, h, hl⟩ := h; exact ⟨M, h.law ht hX hX', hl⟩
end

/-- A pool over a new memory. -/
theorem PL.new {w0 w : World} {X : Nat → Prop} {m a b n : Nat} (base : Nat) (s : Shp) (h : s.Right) (hl : s.ws 3 ≤ 65536) (hM : IsMem w m a b (MemS.fresh n)) (hb : base + s.ws 3 ≤ n) (hB : Below w0.heap.size w0 w) (hbd : w0.heap.size ≤ m ∧ w0.heap.size ≤ a ∧ w0.heap.size ≤ b) (h2 : ¬ X m ∧ ¬ X a ∧ ¬ X b) (h3 : ∀ k, X k → k < w.heap.size) :
    Calls Try.prog 12 #[.pointer (some ⟨m, 0, none⟩), .int .i64 base, s.val] w fun e w' => ∃ p, e = .returned (.tuple #[.pointer (some ⟨p, 0, none⟩), .int .i64 0]) ∧ PL w0 X m a b p (s.at_ base (s.off 3)) w' ∧ Turn (fun _ => False) w w' := by
  have hr := hM.room
  rw [MemS.fresh_words] at hr
  refine (PG.new base s h hl hM (by rw [MemS.fresh_words]; exact hb) hB hbd h2 h3).mono ?_
  rintro e w' ⟨p, rfl, hp, ht⟩
  exact ⟨p, rfl, ⟨_, hp, LI.fresh h hb hr⟩, ht⟩

end Go.Proofs.Ytccadafajocbgaa
