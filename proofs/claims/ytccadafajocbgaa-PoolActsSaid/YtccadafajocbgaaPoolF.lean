/- Layer 10: Take of a block that is there. -/
import Derived.Test.YtccadafajocbgaaPoolE
open Go Go.RowKit
namespace Go.Proofs.Ytccadafajocbgaa

section
variable {w w1 w' : World} {B m a b : Nat} {L : PLay} {S : PS} {M : MemS}

theorem Lies.bk_sh (h : Lies w B m L S) {bk cap : Nat} (hb : L.bv = .slice (some ⟨bk, 0, none⟩) S.blks.length cap) : bk ≠ L.sh ∧ L.sh ≠ bk :=
  ⟨fun e => own_ne_type h.blocks h.shards (by decide) (by rw [hb, ← e]; rfl), fun e => own_ne_type h.blocks h.shards (by decide) (by rw [hb, e]; rfl)⟩

/-- A row is turned by a call: what Take, Give and Drain read besides stands. -/
theorem Lies.rowKeep (h : Lies w B m L S) {k : Nat} (hk : k < 4 * S.W) (ht : Turn (fun g => (L.V k).ownBlock = some g) w w1) {x : Int} (hx : S.there x) {bk cap : Nat} (hb : L.bv = .slice (some ⟨bk, 0, none⟩) S.blks.length cap) {z : Nat} (hz : z = (x - 1).toNat) :
    Cells w1 L.p L.sh bk m k z (L.V k) (S.blk x) := by
  have nt : ∀ {b' : Nat} {c : List Value} {t : TypeId}, Blk w b' c t → 3 ≠ t → ¬ (L.V k).ownBlock = some b' := fun hb hne => own_ne_type (h.rows k hk) hb hne
  have ht1 := h.top.turn ht (nt h.top (by decide))
  have ht2 := h.shards.turn ht (nt h.shards (by decide))
  have ho := own_turn h.blocks ht (fun g hg hg2 => own_ne_own h.blocks (h.rows k hk) (by decide) g hg hg2)
  have h1 := hx.1; have h2 := hx.2
  rw [hb] at ho
  have c : ∀ j, j < 5 → w1.cell? ⟨bk, z * 5 + j, none⟩ = (S.blk x).cells[j]? := fun j hj => by
    rw [ho.cellAt _ (by omega), hz]
    exact flat_get (fun b => b.cells_len) S.blks _ j _ (S.blk_get hx) hj
  exact ⟨ht1.cell 0, by rw [ht2.cell, List.getElem?_map, List.getElem?_range hk]; rfl, c 0 (by omega), c 1 (by omega), c 2 (by omega), c 3 (by omega), c 4 (by omega), ht2.free _, ho.frozenAt _⟩
theorem Lies.cells (h : Lies w B m L S) {k : Nat} (hk : k < 4 * S.W) {x : Int} (hx : S.there x) {bk cap : Nat} (hb : L.bv = .slice (some ⟨bk, 0, none⟩) S.blks.length cap) {z : Nat} (hz : z = (x - 1).toNat) : Cells w L.p L.sh bk m k z (L.V k) (S.blk x) :=
  h.rowKeep hk (Turn.refl _ _) hx hb hz
theorem Lies.drew (h : Lies w B m L S) : Lies w.drew B m L S := h.turn ((Turn.refl (fun _ => False) w).drew) (fun _ _ h => h)
theorem Lies.cell9 (h : Lies w B m L S) : w.cell? ⟨L.p, 9, none⟩ = some (.slice (some ⟨L.sh, 0, none⟩) S.W S.W) := (h.top.cell 9).trans (L.top_sh m S.W h.sc)

theorem Pools.from {L' : PLay} {S' : PS} {v : World} (hT : Turn (fun k => k ∈ [m, a, b] ∨ L.own S.W k) w v) (h : Pools v B m a b L L' S S' M w') : Pools w B m a b L L' S S' M w' :=
  ⟨h.pool, h.mem, h.p, h.W, hT.trans h.turn (fun k hk => .inl hk), fun k hk => (h.own k hk).imp id (fun hk => Nat.le_trans hT.size hk)⟩

/-- The world behind a Take: row k was turned and stored, then the block's flag. -/
theorem pools_take {v u : World} {k : Nat} {x : Int} {l : List Int} {bk bc z : Nat} {v' : Value} (hv : IsPool v B m L S) (hM : IsMem v m a b M) (hk : k < 4 * S.W) (hrow : S.row k = x :: l) (hx : S.there x)
    (hb : L.bv = .slice (some ⟨bk, 0, none⟩) S.blks.length bc) (hz : z = (x - 1).toNat) (ht : Turn (fun g => (L.V k).ownBlock = some g) v u) (h1 : RowI u B v' l)
    (h3 : v'.ownBlock = (L.V k).ownBlock ∨ ∃ g, v'.ownBlock = some g ∧ v.heap.size ≤ g) :
    Pools v B m a b L (L.setV k v') S ((S.setRow k l).setTaken x true) M ((u.setCell ⟨L.sh, k, none⟩ v').setCell ⟨bk, z * 5 + 4, none⟩ (.bool true)) := by
  have l1 := Lies.setRow hv.lies hk h1 ht (ob1 h3)
  have l2 := l1.setTaken (bk := bk) (cap := bc) hb (x := x) hx true
  rw [← hz] at l2
  have ob : L.own S.W L.sh := .inr (.inl rfl)
  have ob2 : L.own S.W bk := .inr (.inr (.inl (by rw [hb]; rfl)))
  have ap := hv.apart hM
  have hT : Turn (fun k => L.own S.W k) v ((u.setCell ⟨L.sh, k, none⟩ v').setCell ⟨bk, z * 5 + 4, none⟩ (.bool true)) :=
    ((ht.mono (fun g hg => .inl (.inr (.inr (.inr ⟨k, hk, hg⟩))))).setCell (F := fun k => L.own S.W k) (p := ⟨L.sh, k, none⟩) (.inl ob) _).setCell (F := fun k => L.own S.W k) (p := ⟨bk, z * 5 + 4, none⟩) (.inl ob2) _
  exact ⟨l2.pool (hv.ok.pull hk hrow), hM.turn hT (fun e => (ap m e).1 rfl) (fun e => (ap a e).2.1 rfl) (fun e => (ap b e).2.2 rfl), rfl, rfl, hT.mono (fun k hk => .inl (.inr hk)), fun g hg => PLay.own_setV (ob1 h3) hk hg⟩

theorem take_ok {q y g cap bk bc z : Nat} {x : Int} {l : List Int} (h : TakeAt w B m a b L S M q y x l g cap bk bc z) (hc : M.tcode (S.blk x).pos (S.blk x).size true = 0) :
    Calls Try.prog 15 #[.pointer (some ⟨L.p, 0, none⟩), .int .i64 q, .int .i64 y] w (PoolPost w B m a b L S ((S.setRow (q * 4 + y) l).setTaken x true) (M.turn (S.blk x).pos (S.blk x).size true) (.tuple #[.int .i64 x, .int .i64 0])) := by
  have hx := h.there
  have CS := Lib.hid (shard_in h.pool q h.hq)
  have CB := Lib.hid (block_in h.pool h.bv x hx)
  rw [← h.hz] at CB
  have hk : q * 4 + y < 4 * S.W := by have := h.hq; have := h.hy; omega
  obtain ⟨ne1, ne2⟩ := h.pool.lies.bk_sh h.bv
  have cx := h.cellX
  obtain ⟨p0, c0, b0, b1, -, -, -, -, -⟩ := h.pool.cells hk hx h.bv h.hz
  rw [h.v] at c0
  have hs := h.pool.ok.short hk
  rw [h.row] at hs
  have hy := h.hy
  have CL := Lib.hid (fun (v : World) (hv : IsMem v m a b M) => live_any m a b M (S.blk x).pos (S.blk x).size v hv)
  rw [hc] at CL
  have HP := Lib.hid h.pool; have HM := Lib.hid h.mem
  have hlen : (x :: l).length = l.length + 1 := rfl
  rw [hlen] at hs
  have KC := Lib.hid (fun (v : World) (hv : IsPool v B m L S) => hv.cells hk hx h.bv h.hz)
  have CD := Lib.hid (fun (v : World) (hv : IsPool v B m L S) => delete_first v B (L.V (q * 4 + y)) x l (by have := hv.rows _ hk; rwa [h.row] at this))
  have KD := Lib.hid (fun (v u : World) (hv : IsPool v B m L S) (ht : Turn (fun g => (L.V (q * 4 + y)).ownBlock = some g) v u) => hv.lies.rowKeep hk ht hx h.bv h.hz)
  have KE := Lib.hid (fun (v u : World) (hv : IsPool v B m L S) (hu : IsMem v m a b (M.turn (S.blk x).pos (S.blk x).size true)) (ht : Turn (fun g => (L.V (q * 4 + y)).ownBlock = some g) v u) (v' : Value) (h1 : RowI u B v' l)
    (h3 : v'.ownBlock = (L.V (q * 4 + y)).ownBlock ∨ ∃ g, v'.ownBlock = some g ∧ v.heap.size ≤ g) => pools_take hv hu hk h.row hx h.bv h.hz ht h1 h3)
  rw [h.v] at CD KC KD KE
  generalize M.turn (S.blk x).pos (S.blk x).size true = M' at *
  generalize (S.setRow (q * 4 + y) l).setTaken x true = S' at *
  obtain ⟨bx, hbx⟩ : ∃ bx, bx = S.blk x := ⟨_, rfl⟩
  obtain ⟨p, hp⟩ : ∃ p, p = L.p := ⟨_, rfl⟩
  obtain ⟨sh, hsh⟩ : ∃ sh, sh = L.sh := ⟨_, rfl⟩
  obtain ⟨n, hn⟩ : ∃ n, n = l.length := ⟨_, rfl⟩
  rw [← hbx] at b0 b1 CL KC KD
  rw [← hp] at p0 CS CB KC KD ⊢
  rw [← hsh] at c0 CS KC KD KE ne1 ne2
  rw [← hn] at c0 hs KC KD KE CD
  obtain ⟨bp, bs, bo, bcl, bt⟩ := bx
  simp only at b0 b1 CL
  clear h hlen hc hx hk hp hsh hn hbx
  go_enter Try.func15, Try.ntmps15
  go_wp2_with fail
  refine CS.out.mono ?_
  rintro e w1 ⟨rfl, rfl⟩
  go_wp2_with fail
  refine CB.out.mono ?_
  rintro e w1 ⟨rfl, rfl⟩
  go_wp2_with fail
  go_region_held3 (fun w' => w'.cell? ⟨p, 0, none⟩ = some (.pointer (some ⟨m, 0, none⟩)) ∧ w'.cell? ⟨bk, z * 5, none⟩ = some (.int .i64 bp) ∧ w'.cell? ⟨bk, z * 5 + 1, none⟩ = some (.int .i64 bs)) (((repeat' apply And.intro) <;> assumption))
    (first | (go_at_call 31; refine (CL.out _ HM.out.drew).mono ?_; rintro e w1 ⟨rfl, hm, ho⟩; have HM1 := Lib.hid hm; have HO1 := Lib.hid ho; have HP1 := Lib.hid (HP.out.drew.onlyM HM.out.drew ho); clear hm ho p0 c0 b0 b1; obtain ⟨p0, c0, b0, b1, -, -, -, -, -⟩ := KC.out _ HP1.out))
  have HD := Lib.hid (CD.out _ HP1.out)
  go_wp2_with fail
  refine HD.out.mono ?_
  rintro e w2 ⟨v', rfl, h1, ht, h3⟩
  obtain ⟨va, vc, rfl⟩ := rowLen h1
  clear p0 c0 b0 b1
  obtain ⟨p0, c0, b0, b1, -, -, b4, fv, fb⟩ := KD.out _ _ HP1.out ht
  have HE := Lib.hid (KE.out _ _ HP1.out HM1.out ht _ h1 h3)
  clear h1 ht h3
  go_wp2_with fail
  go_ret2
  exact ⟨rfl, _, Pools.from ((Turn.refl _ w).drew.trans (Turn.of_only HO1.out) (fun k hk => .inl (.inl hk))) HE.out⟩
end

end Go.Proofs.Ytccadafajocbgaa
