/- Layer 10: what a change of a row, of a block's flag does to a pool; Take. -/
import Derived.Test.YtccadafajocbgaaPoolD
import Derived.Test.YtccadafajocbgaaPoolP
import Derived.Deep.RegionHeld3
open Go Go.RowKit
namespace Go.Proofs.Ytccadafajocbgaa

/-- A pool without the law of its rows. -/
structure Lies (w : World) (B m : Nat) (L : PLay) (S : PS) : Prop where
  top : Blk w L.p (L.cells m S.W) 71
  sc : L.sc.length = 7
  blocks : w.ownsRow B 73 5 L.bv S.blks.length (S.blks.flatMap PB.cells)
  shards : Blk w L.sh ((List.range (4 * S.W)).map L.V) 77
  rows : ∀ k, k < 4 * S.W → RowI w B (L.V k) (S.row k)
  dis : ∀ j k, j < 4 * S.W → k < 4 * S.W → j ≠ k → ∀ g, (L.V j).ownBlock = some g → (L.V k).ownBlock ≠ some g
  pB : B ≤ L.p
  shB : B ≤ L.sh

def PLay.setV (L : PLay) (k : Nat) (v : Value) : PLay := { L with V := fun j => if j = k then v else L.V j }

section
variable {w w1 w' : World} {B m a b : Nat} {L : PLay} {S : PS} {M : MemS}

theorem IsPool.lies (h : IsPool w B m L S) : Lies w B m L S := ⟨h.top, h.sc, h.blocks, h.shards, h.rows, h.dis, h.pB, h.shB⟩
theorem Lies.pool (h : Lies w B m L S) (ok : S.Ok) : IsPool w B m L S := ⟨h.top, h.sc, h.blocks, h.shards, h.rows, h.dis, h.pB, h.shB, ok⟩
theorem Lies.turn {F : Nat → Prop} (h : Lies w B m L S) (ht : Turn F w w') (hF : ∀ k, L.own S.W k → ¬ F k) : Lies w' B m L S :=
  ⟨h.top.turn ht (hF _ (.inl rfl)), h.sc, own_turn h.blocks ht (fun g hg => hF g (.inr (.inr (.inl hg)))), h.shards.turn ht (hF _ (.inr (.inl rfl))),
    fun k hk => own_turn (h.rows k hk) ht (fun g hg => hF g (.inr (.inr (.inr ⟨k, hk, hg⟩)))), h.dis, h.pB, h.shB⟩

theorem ob1 {v v' : Value} {n : Nat} (h : v'.ownBlock = v.ownBlock ∨ ∃ g, v'.ownBlock = some g ∧ n ≤ g) : ∀ g, v'.ownBlock = some g → v.ownBlock = some g ∨ n ≤ g := by
  intro g hg
  rcases h with e | ⟨g', e, hge⟩
  · exact .inl (e ▸ hg)
  · rw [e] at hg; injection hg with hg; subst hg; exact .inr hge

/-- Row k is turned by a call, then stored. -/
theorem Lies.setRow (h : Lies w B m L S) {k : Nat} (hk : k < 4 * S.W) {v' : Value} {l : List Int} (h1 : RowI w1 B v' l) (h2 : Turn (fun g => (L.V k).ownBlock = some g) w w1)
    (h3 : ∀ g, v'.ownBlock = some g → (L.V k).ownBlock = some g ∨ w.heap.size ≤ g) :
    Lies (w1.setCell ⟨L.sh, k, none⟩ v') B m (L.setV k v') (S.setRow k l) := by
  have nt : ∀ {b' : Nat} {c : List Value} {t : TypeId}, Blk w b' c t → 3 ≠ t → ¬ (L.V k).ownBlock = some b' := fun hb hne => own_ne_type (h.rows k hk) hb hne
  have hsh1 := h.shards.turn h2 (nt h.shards (by decide))
  have hT : Turn (fun g => g = L.sh) w1 (w1.setCell ⟨L.sh, k, none⟩ v') := Turn.setCell (F := fun g => g = L.sh) (p := ⟨L.sh, k, none⟩) (Turn.refl _ _) (.inl rfl) _
  have hsh := hsh1.set k v'
  have hnew : ∀ j, j < 4 * S.W → j ≠ k → ∀ g, (L.V j).ownBlock = some g → v'.ownBlock ≠ some g := by
    intro j hj hjk g hg hv
    rcases h3 g hv with e | hge
    · exact h.dis j k hj hk hjk g hg e
    · have := ((h.rows j hj).lt _ hg).2
      omega
  refine ⟨?_, h.sc, ?_, ?_, ?_, ?_, h.pB, h.shB⟩
  · exact (h.top.turn h2 (nt h.top (by decide))).turn hT (h.top.ne_type h.shards (by decide))
  · refine own_turn (own_turn h.blocks h2 (fun g hg hg2 => own_ne_own h.blocks (h.rows k hk) (by decide) g hg hg2)) hT (fun g hg e => ?_)
    subst e
    exact own_ne_type h.blocks h.shards (by decide) hg
  · have e : ((List.range (4 * S.W)).map L.V).set k v' = (List.range (4 * S.W)).map (L.setV k v').V := by
      apply List.ext_getElem?
      intro i
      rw [List.getElem?_set]
      by_cases hik : k = i
      · subst hik
        rw [if_pos rfl, if_pos (by simpa using hk), List.getElem?_map, List.getElem?_range hk]
        simp [PLay.setV]
      · rw [if_neg hik]
        by_cases hi : i < 4 * S.W
        · rw [List.getElem?_map, List.getElem?_map, List.getElem?_range hi]
          simp [PLay.setV, Ne.symm hik]
        · rw [List.getElem?_eq_none (by simp; omega), List.getElem?_eq_none (by simp; omega)]
    rw [e] at hsh
    exact hsh
  · intro j hj
    by_cases hjk : j = k
    · subst hjk
      simp only [PLay.setV, PS.setRow, if_true]
      exact own_turn h1 hT (fun g hg e => by subst e; exact own_ne_type h1 hsh1 (by decide) hg)
    · simp only [PLay.setV, PS.setRow, if_neg hjk]
      refine own_turn (own_turn (h.rows j hj) h2 (fun g hg hg2 => h.dis j k hj hk hjk g hg hg2)) hT (fun g hg e => ?_)
      subst e
      exact own_ne_type (h.rows j hj) h.shards (by decide) hg
  · intro i j hi hj hij g hg hg2
    simp only [PLay.setV] at hg hg2
    by_cases hik : i = k
    · rw [if_pos hik] at hg
      rw [if_neg (by omega)] at hg2
      exact hnew j hj (by omega) g hg2 hg
    · rw [if_neg hik] at hg
      by_cases hjk : j = k
      · rw [if_pos hjk] at hg2
        exact hnew i hi hik g hg hg2
      · rw [if_neg hjk] at hg2
        exact h.dis i j hi hj hij g hg hg2

/-- A block's flag is stored. -/
theorem Lies.setTaken (h : Lies w B m L S) {bk cap : Nat} (hb : L.bv = .slice (some ⟨bk, 0, none⟩) S.blks.length cap) {x : Int} (hx : S.there x) (t : Bool) :
    Lies (w.setCell ⟨bk, (x - 1).toNat * 5 + 4, none⟩ (.bool t)) B m L (S.setTaken x t) := by
  have ho := h.blocks
  rw [hb] at ho
  have hs := ho.stored ((x - 1).toNat * 5 + 4) (.bool t)
  have e := flat_set (fun b => b.cells_len) S.blks (x - 1).toNat 4 (S.blk x) { S.blk x with taken := t } (.bool t) (S.blk_get hx) (by omega) rfl
  rw [e] at hs
  have hT : Turn (fun g => L.bv.ownBlock = some g) w (w.setCell ⟨bk, (x - 1).toNat * 5 + 4, none⟩ (.bool t)) := (Turn.refl _ _).setCell (.inl (by rw [hb]; rfl)) _
  refine ⟨h.top.turn hT (own_ne_type h.blocks h.top (by decide)), h.sc, ?_, h.shards.turn hT (own_ne_type h.blocks h.shards (by decide)), fun k hk => ?_, h.dis, h.pB, h.shB⟩
  · rw [PS.setTaken_len, hb]
    exact hs.1
  · exact own_turn (h.rows k hk) hT (fun g hg hg2 => own_ne_own h.blocks (h.rows k hk) (by decide) g hg2 hg)

theorem PLay.own_setV {k : Nat} {v' : Value} {n : Nat} (h3 : ∀ g, v'.ownBlock = some g → (L.V k).ownBlock = some g ∨ n ≤ g) {W g : Nat} (hk : k < 4 * W) (h : (L.setV k v').own W g) : L.own W g ∨ n ≤ g := by
  rcases h with h | h | h | ⟨j, hj, h⟩
  · exact .inl (.inl h)
  · exact .inl (.inr (.inl h))
  · exact .inl (.inr (.inr (.inl h)))
  · simp only [PLay.setV] at h
    by_cases hjk : j = k
    · rw [if_pos hjk] at h
      rcases h3 g h with e | hge
      · exact .inl (.inr (.inr (.inr ⟨k, hk, e⟩)))
      · exact .inr hge
    · rw [if_neg hjk] at h
      exact .inl (.inr (.inr (.inr ⟨j, hj, h⟩)))

/-- The memory's blocks are none of the pool's. -/
theorem IsPool.apart (h : IsPool w B m L S) (hM : IsMem w m a b M) : ∀ k, L.own S.W k → k ≠ m ∧ k ≠ a ∧ k ≠ b := by
  rintro k (rfl | rfl | hk | ⟨j, hj, hk⟩)
  · exact ⟨h.top.ne_type hM.top (by decide), h.top.ne_type hM.words (by decide), h.top.ne_type hM.live (by decide)⟩
  · exact ⟨h.shards.ne_type hM.top (by decide), h.shards.ne_type hM.words (by decide), h.shards.ne_type hM.live (by decide)⟩
  · exact ⟨fun e => own_ne_type h.blocks hM.top (by decide) (e ▸ hk), fun e => own_ne_type h.blocks hM.words (by decide) (e ▸ hk), fun e => own_ne_type h.blocks hM.live (by decide) (e ▸ hk)⟩
  · exact ⟨fun e => own_ne_type (h.rows j hj) hM.top (by decide) (e ▸ hk), fun e => own_ne_type (h.rows j hj) hM.words (by decide) (e ▸ hk), fun e => own_ne_type (h.rows j hj) hM.live (by decide) (e ▸ hk)⟩

/-- What a call on a pool and its memory leaves. -/
structure Pools (w : World) (B m a b : Nat) (L L' : PLay) (S S' : PS) (M' : MemS) (w' : World) : Prop where
  pool : IsPool w' B m L' S'
  mem : IsMem w' m a b M'
  p : L'.p = L.p
  W : S'.W = S.W
  turn : Turn (fun k => k ∈ [m, a, b] ∨ L.own S.W k) w w'
  own : ∀ k, L'.own S'.W k → L.own S.W k ∨ w.heap.size ≤ k
def PoolPost (w : World) (B m a b : Nat) (L : PLay) (S S' : PS) (M' : MemS) (r : Value) (e : Ending) (w' : World) : Prop := e = .returned r ∧ ∃ L', Pools w B m a b L L' S S' M' w'

theorem Pools.same (h : IsPool w B m L S) (hM : IsMem w m a b M) : Pools w B m a b L L S S M w := ⟨h, hM, rfl, rfl, Turn.refl _ _, fun _ hk => .inl hk⟩

/-! Take -/
def PS.takeOut (S : PS) (v c : Int) : Prop := v < 0 ∨ S.W ≤ v ∨ c < 0 ∨ 3 ≤ c

theorem take_out (h : IsPool w B m L S) (v c : Int) (ho : S.takeOut v c) : Calls Try.prog 15 #[.pointer (some ⟨L.p, 0, none⟩), .int .i64 v, .int .i64 c] w fun e w' => e = .returned (.tuple #[.int .i64 0, .int .i64 1]) ∧ w = w' := by
  unfold PS.takeOut at ho
  by_cases hv : 0 ≤ v ∧ v < S.W
  · obtain ⟨q, rfl⟩ : ∃ q : Nat, v = q := ⟨v.toNat, by omega⟩
    have C := Lib.hid (shard_in h q (by omega))
    have hc : c < 0 ∨ 3 ≤ c := by omega
    clear h ho hv
    by_cases h0 : c < 0
    · clear hc
      go_enter Try.func15, Try.ntmps15
      go_wp2_with fail
      refine C.out.mono ?_
      rintro e w1 ⟨rfl, rfl⟩
      go_wp2_with fail
      go_ret2
      exact ⟨rfl, rfl⟩
    · have h3 : ¬ c < 3 := by omega
      clear hc
      go_enter Try.func15, Try.ntmps15
      go_wp2_with fail
      refine C.out.mono ?_
      rintro e w1 ⟨rfl, rfl⟩
      go_wp2_with fail
      go_ret2
      exact ⟨rfl, rfl⟩
  · have C := Lib.hid (shard_out h v (by omega))
    clear h hv ho
    go_enter Try.func15, Try.ntmps15
    go_wp2_with fail
    refine C.out.mono ?_
    rintro e w1 ⟨rfl, rfl⟩
    go_wp2_with fail
    go_ret2
    exact ⟨rfl, rfl⟩

theorem take_nil (v c : Int) (w : World) : Calls Try.prog 15 #[.pointer none, .int .i64 v, .int .i64 c] w fun e w' => e = .returned (.tuple #[.int .i64 0, .int .i64 1]) ∧ w = w' := by
  have C := Lib.hid (shard_nil v w)
  go_enter Try.func15, Try.ntmps15
  go_wp2_with fail
  refine C.out.mono ?_
  rintro e w1 ⟨rfl, rfl⟩
  go_wp2_with fail
  go_ret2
  exact ⟨rfl, rfl⟩

theorem take_empty (h : IsPool w B m L S) (q y : Nat) (hq : q < S.W) (hy : y < 3) (he : S.row (4 * q + y) = []) : Calls Try.prog 15 #[.pointer (some ⟨L.p, 0, none⟩), .int .i64 q, .int .i64 y] w fun e w' => e = .returned (.tuple #[.int .i64 0, .int .i64 9]) ∧ w = w' := by
  have C := Lib.hid (shard_in h q hq)
  have hk : 4 * q + y < 4 * S.W := by omega
  have c0 := h.cellR hk
  obtain ⟨a, cap, hv'⟩ := rowLen (h.rows _ hk)
  rw [hv', he] at c0
  rw [show 4 * q + y = q * 4 + y by omega] at c0
  simp only [List.length_nil] at c0
  generalize L.p = p at *
  generalize L.sh = sh at *
  clear h hv' hk hq he
  go_enter Try.func15, Try.ntmps15
  go_wp2_with fail
  refine C.out.mono ?_
  rintro e w1 ⟨rfl, rfl⟩
  go_wp2_with fail
  go_ret2
  exact ⟨rfl, rfl⟩

/-- The cells that Take, Give and Drain read of a pool, where its row k begins with x and where block x lies. -/
structure Cells (w : World) (p sh bk m k z : Nat) (v : Value) (b : PB) : Prop where
  p0 : w.cell? ⟨p, 0, none⟩ = some (.pointer (some ⟨m, 0, none⟩))
  v0 : w.cell? ⟨sh, k, none⟩ = some v
  b0 : w.cell? ⟨bk, z * 5, none⟩ = some (.int .i64 b.pos)
  b1 : w.cell? ⟨bk, z * 5 + 1, none⟩ = some (.int .i64 b.size)
  b2 : w.cell? ⟨bk, z * 5 + 2, none⟩ = some (.int .i64 b.owner)
  b3 : w.cell? ⟨bk, z * 5 + 3, none⟩ = some (.int .i64 b.cls)
  b4 : w.cell? ⟨bk, z * 5 + 4, none⟩ = some (.bool b.taken)
  fv : w.frozen? ⟨sh, k, none⟩ = false
  fb : w.frozen? ⟨bk, z * 5 + 4, none⟩ = false

theorem IsPool.cells (h : IsPool w B m L S) {k : Nat} (hk : k < 4 * S.W) {x : Int} (hx : S.there x) {bk cap : Nat} (hb : L.bv = .slice (some ⟨bk, 0, none⟩) S.blks.length cap) {z : Nat} (hz : z = (x - 1).toNat) : Cells w L.p L.sh bk m k z (L.V k) (S.blk x) := by
  have ho := h.blocks
  rw [hb] at ho
  have c := fun j hj => h.cellB hb hx j hj
  rw [← hz] at c
  exact ⟨h.cell0, h.cellR hk, c 0 (by omega), c 1 (by omega), c 2 (by omega), c 3 (by omega), c 4 (by omega), h.shards.free _, ho.frozenAt _⟩

theorem IsPool.onlyM (h : IsPool w B m L S) (hM : IsMem w m a b M) (ho : Only [m, a, b] w w') : IsPool w' B m L S :=
  h.turn (Turn.of_only ho) (fun k hk hm => by have := h.apart hM k hk; simp at hm; omega)

/-- What is known at a Take that finds x. -/
structure TakeAt (w : World) (B m a b : Nat) (L : PLay) (S : PS) (M : MemS) (q y : Nat) (x : Int) (l : List Int) (g cap bk bc z : Nat) : Prop where
  pool : IsPool w B m L S
  mem : IsMem w m a b M
  hq : q < S.W
  hy : y < 3
  row : S.row (q * 4 + y) = x :: l
  v : L.V (q * 4 + y) = .slice (some ⟨g, 0, none⟩) (l.length + 1) cap
  bv : L.bv = .slice (some ⟨bk, 0, none⟩) S.blks.length bc
  hz : z = (x - 1).toNat
theorem TakeAt.there {q y g cap bk bc z : Nat} {x : Int} {l : List Int} (h : TakeAt w B m a b L S M q y x l g cap bk bc z) : S.there x :=
  (h.pool.ok.mem (q * 4 + y) (by have := h.hq; have := h.hy; omega) x (by rw [h.row]; simp)).1
theorem take_at (h : IsPool w B m L S) (hM : IsMem w m a b M) (q y : Nat) (hq : q < S.W) (hy : y < 3) (x : Int) (l : List Int) (he : S.row (4 * q + y) = x :: l) : ∃ g cap bk bc z, TakeAt w B m a b L S M q y x l g cap bk bc z := by
  rw [show 4 * q + y = q * 4 + y by omega] at he
  have hk : q * 4 + y < 4 * S.W := by omega
  have hr := h.rows _ hk
  rw [he] at hr
  obtain ⟨g, cap, hv', _, _⟩ := hr.form (by simp)
  have hx := (h.ok.mem _ hk x (by rw [he]; simp)).1
  obtain ⟨bk, bc, hb⟩ := h.bvForm (by have := hx.1; have := hx.2; omega)
  exact ⟨g, cap, bk, bc, _, h, hM, hq, hy, he, hv', hb, rfl⟩
theorem TakeAt.cellX {q y g cap bk bc z : Nat} {x : Int} {l : List Int} (h : TakeAt w B m a b L S M q y x l g cap bk bc z) : w.cell? ⟨g, 0, none⟩ = some (.int .i64 x) := by
  have hk : q * 4 + y < 4 * S.W := by have := h.hq; have := h.hy; omega
  have hr := h.pool.rows _ hk
  rw [h.row] at hr
  have cx := hr.cells (g := g) (by rw [h.v]; rfl) 0 (.int .i64 x) rfl
  rwa [Addr.add_lit, Nat.zero_add] at cx

theorem take_fail {q y g cap bk bc z : Nat} {x : Int} {l : List Int} (h : TakeAt w B m a b L S M q y x l g cap bk bc z) (hc : M.tcode (S.blk x).pos (S.blk x).size true ≠ 0) :
    Calls Try.prog 15 #[.pointer (some ⟨L.p, 0, none⟩), .int .i64 q, .int .i64 y] w (PoolPost w B m a b L S S M (.tuple #[.int .i64 0, .int .i64 (M.tcode (S.blk x).pos (S.blk x).size true)])) := by
  have hx := h.there
  have CS := Lib.hid (shard_in h.pool q h.hq)
  have CB := Lib.hid (block_in h.pool h.bv x hx)
  rw [← h.hz] at CB
  have hk : q * 4 + y < 4 * S.W := by have := h.hq; have := h.hy; omega
  have cx := h.cellX
  obtain ⟨p0, c0, b0, b1, -, -, -, -, -⟩ := h.pool.cells hk hx h.bv h.hz
  rw [h.v] at c0
  have hs := h.pool.ok.short hk
  rw [h.row] at hs
  have hy := h.hy
  have hT : M.turn (S.blk x).pos (S.blk x).size true = M := MemS.turn_ne hc
  have KC := Lib.hid (fun (v : World) (hv : IsPool v B m L S) => hv.cells hk hx h.bv h.hz)
  have CL := Lib.hid (fun (v : World) (hv : IsMem v m a b M) => live_any m a b M (S.blk x).pos (S.blk x).size v hv)
  rw [hT] at CL
  have hcb : (M.tcode (S.blk x).pos (S.blk x).size true == 0) = false := by simpa using hc
  have HP := Lib.hid h.pool; have HM := Lib.hid h.mem
  have hlen : (x :: l).length = l.length + 1 := rfl
  rw [hlen] at hs
  generalize M.tcode (S.blk x).pos (S.blk x).size true = code at *
  obtain ⟨bp, hbp⟩ : ∃ bp, bp = (S.blk x).pos := ⟨_, rfl⟩
  obtain ⟨bs, hbs⟩ : ∃ bs, bs = (S.blk x).size := ⟨_, rfl⟩
  obtain ⟨p, hp⟩ : ∃ p, p = L.p := ⟨_, rfl⟩
  obtain ⟨sh, hsh⟩ : ∃ sh, sh = L.sh := ⟨_, rfl⟩
  obtain ⟨n, hn⟩ : ∃ n, n = l.length := ⟨_, rfl⟩
  have KC : Hid (∀ v, IsPool v B m L S → v.cell? ⟨p, 0, none⟩ = some (.pointer (some ⟨m, 0, none⟩)) ∧ v.cell? ⟨bk, z * 5, none⟩ = some (.int .i64 bp) ∧ v.cell? ⟨bk, z * 5 + 1, none⟩ = some (.int .i64 bs)) :=
    Lib.hid (fun v hv => by have c := KC.out v hv; rw [hp, hbp, hbs]; exact ⟨c.p0, c.b0, c.b1⟩)
  rw [← hbp] at b0 CL
  rw [← hbs] at b1 CL
  rw [← hp] at p0 CS CB ⊢
  rw [← hsh] at c0 CS
  rw [← hn] at c0 hs
  clear h hT hlen hc hx hk hp hsh hn hbp hbs
  go_enter Try.func15, Try.ntmps15
  go_wp2_with fail
  refine CS.out.mono ?_
  rintro e w1 ⟨rfl, rfl⟩
  go_wp2_with fail
  refine CB.out.mono ?_
  rintro e w1 ⟨rfl, rfl⟩
  go_wp2_with fail
  go_region_held3 (fun w' => w'.cell? ⟨p, 0, none⟩ = some (.pointer (some ⟨m, 0, none⟩)) ∧ w'.cell? ⟨bk, z * 5, none⟩ = some (.int .i64 bp) ∧ w'.cell? ⟨bk, z * 5 + 1, none⟩ = some (.int .i64 bs)) (((repeat' apply And.intro) <;> assumption))
    (first | (go_at_call 31; refine (CL.out _ HM.out.drew).mono ?_; rintro e w1 ⟨rfl, hm, ho⟩; have HM1 := Lib.hid hm; have HO1 := Lib.hid ho; have HP1 := Lib.hid (HP.out.drew.onlyM HM.out.drew ho); obtain ⟨p0, b0, b1⟩ := KC.out _ HP1.out; clear hm ho))
  go_wp2_with fail
  go_ret2
  exact ⟨rfl, L, HP1.out, HM1.out, rfl, rfl, ((Turn.refl _ w).drew.trans (Turn.of_only HO1.out) (fun k hk => .inl (.inl hk))), fun k hk => .inl hk⟩

end

end Go.Proofs.Ytccadafajocbgaa
