/- Layer 10: what a pool reads as; the inner functions shard, block, front. -/
import Derived.Test.YtccadafajocbgaaPoolB
open Go Go.RowKit
namespace Go.Proofs.Ytccadafajocbgaa

/-- A block. -/
structure PB where
  pos : Nat
  size : Nat
  owner : Nat
  cls : Nat
  taken : Bool
deriving Inhabited

def PB.cells (b : PB) : List Value := [.int .i64 b.pos, .int .i64 b.size, .int .i64 b.owner, .int .i64 b.cls, .bool b.taken]
theorem PB.cells_len (b : PB) : b.cells.length = 5 := rfl

/-- What a pool reads as: its workers, its blocks, its rows (row 4 w + c: what is free, 4 w + 3: what others gave back). -/
structure PS where
  W : Nat
  blks : List PB
  row : Nat → List Int

def PS.blk (S : PS) (x : Int) : PB := S.blks.getD (x - 1).toNat default
def PS.home (S : PS) (x : Int) : Nat := 4 * (S.blk x).owner + (S.blk x).cls
def PS.far (S : PS) (x : Int) : Nat := 4 * (S.blk x).owner + 3
def PS.there (S : PS) (x : Int) : Prop := 1 ≤ x ∧ x ≤ S.blks.length

/-- Each block that is not taken stands in one row, at its owner's. -/
structure PS.Ok (S : PS) : Prop where
  W1 : 1 ≤ S.W
  W2 : S.W ≤ 64
  N : S.blks.length ≤ 192000
  place : ∀ x, S.there x → (S.blk x).owner < S.W ∧ (S.blk x).cls < 3 ∧ (S.blk x).pos ≤ 65536 ∧ (S.blk x).size ≤ 65536
  mem : ∀ k, k < 4 * S.W → ∀ x ∈ S.row k, S.there x ∧ (S.blk x).taken = false ∧ (k = S.home x ∨ k = S.far x)
  nodup : ∀ k, k < 4 * S.W → (S.row k).Nodup
  once : ∀ x, S.there x → x ∈ S.row (S.home x) → x ∉ S.row (S.far x)
  all : ∀ x, S.there x → (S.blk x).taken = false → x ∈ S.row (S.home x) ∨ x ∈ S.row (S.far x)

theorem nodup_le : ∀ (n : Nat) (l : List Int), l.Nodup → (∀ x ∈ l, 1 ≤ x ∧ x ≤ n) → l.length ≤ n
  | 0, [], _, _ => Nat.le_refl _
  | 0, x :: l, _, h => by have := h x (by simp); omega
  | n + 1, l, hn, h => by
    by_cases hx : ((n + 1 : Nat) : Int) ∈ l
    · have h2 := nodup_le n (l.erase ((n + 1 : Nat) : Int)) (hn.erase _) (fun x hx => by
        have h3 := (hn.mem_erase_iff).1 hx
        have h4 := h x h3.2
        have h5 : x ≠ ((n + 1 : Nat) : Int) := h3.1
        omega)
      rw [List.length_erase_of_mem hx] at h2
      omega
    · have h2 := nodup_le n l hn (fun x hm => by
        have h4 := h x hm
        have h5 : x ≠ ((n + 1 : Nat) : Int) := fun e => hx (e ▸ hm)
        omega)
      omega
theorem PS.Ok.short {S : PS} (h : S.Ok) {k : Nat} (hk : k < 4 * S.W) : (S.row k).length ≤ 192000 :=
  Nat.le_trans (nodup_le S.blks.length _ (h.nodup k hk) (fun x hx => (h.mem k hk x hx).1)) h.N

/-- Where a pool lies. -/
structure PLay where
  p : Nat
  sc : List Value
  bv : Value
  sh : Nat
  V : Nat → Value

def PLay.own (L : PLay) (W : Nat) (k : Nat) : Prop := k = L.p ∨ k = L.sh ∨ L.bv.ownBlock = some k ∨ ∃ j, j < 4 * W ∧ (L.V j).ownBlock = some k
def PLay.cells (L : PLay) (m W : Nat) : List Value := .pointer (some ⟨m, 0, none⟩) :: (L.sc ++ [L.bv, .slice (some ⟨L.sh, 0, none⟩) W W])

/-- The blocks of L, none below B, are a pool over the memory at m, which reads as S. -/
structure IsPool (w : World) (B m : Nat) (L : PLay) (S : PS) : Prop where
  top : Blk w L.p (L.cells m S.W) 71
  sc : L.sc.length = 7
  blocks : w.ownsRow B 73 5 L.bv S.blks.length (S.blks.flatMap PB.cells)
  shards : Blk w L.sh ((List.range (4 * S.W)).map L.V) 77
  rows : ∀ k, k < 4 * S.W → RowI w B (L.V k) (S.row k)
  dis : ∀ j k, j < 4 * S.W → k < 4 * S.W → j ≠ k → ∀ g, (L.V j).ownBlock = some g → (L.V k).ownBlock ≠ some g
  pB : B ≤ L.p
  shB : B ≤ L.sh
  ok : S.Ok

section
variable {w w' : World} {B m : Nat} {L : PLay} {S : PS}

theorem PLay.top_bv (L : PLay) (m W : Nat) (h : L.sc.length = 7) : (L.cells m W)[8]? = some L.bv := by
  simp [PLay.cells, h]
theorem PLay.top_sh (L : PLay) (m W : Nat) (h : L.sc.length = 7) : (L.cells m W)[9]? = some (.slice (some ⟨L.sh, 0, none⟩) W W) := by
  simp [PLay.cells, h]
theorem IsPool.cell0 (h : IsPool w B m L S) : w.cell? ⟨L.p, 0, none⟩ = some (.pointer (some ⟨m, 0, none⟩)) := h.top.cell 0
theorem IsPool.cell8 (h : IsPool w B m L S) : w.cell? ⟨L.p, 8, none⟩ = some L.bv := (h.top.cell 8).trans (L.top_bv m S.W h.sc)
theorem IsPool.cell9 (h : IsPool w B m L S) : w.cell? ⟨L.p, 9, none⟩ = some (.slice (some ⟨L.sh, 0, none⟩) S.W S.W) := (h.top.cell 9).trans (L.top_sh m S.W h.sc)
theorem IsPool.cellR (h : IsPool w B m L S) {k : Nat} (hk : k < 4 * S.W) : w.cell? ⟨L.sh, k, none⟩ = some (L.V k) := by
  rw [h.shards.cell, List.getElem?_map, List.getElem?_range hk]; rfl
theorem IsPool.bvForm (h : IsPool w B m L S) (hN : 0 < S.blks.length) : ∃ bk cap, L.bv = .slice (some ⟨bk, 0, none⟩) S.blks.length cap := by
  obtain ⟨g, cap, hv, _, _⟩ := h.blocks.form hN
  exact ⟨g, cap, hv⟩
theorem IsPool.bvForm' (h : IsPool w B m L S) : ∃ a cap, L.bv = .slice a S.blks.length cap := by
  rcases h.blocks.2 with ⟨hv, hn⟩ | ⟨g, cap, _, hv, _⟩
  · exact ⟨none, 0, by rw [hv, hn]⟩
  · exact ⟨_, _, hv⟩
theorem PS.blk_get (S : PS) {x : Int} (hx : S.there x) : S.blks[(x - 1).toNat]? = some (S.blk x) := by
  have h1 := hx.1; have h2 := hx.2
  have : (x - 1).toNat < S.blks.length := by omega
  rw [PS.blk, List.getD_eq_getElem?_getD, List.getElem?_eq_getElem this]; rfl
theorem IsPool.cellB (h : IsPool w B m L S) {bk cap : Nat} (hb : L.bv = .slice (some ⟨bk, 0, none⟩) S.blks.length cap) {x : Int} (hx : S.there x) (j : Nat) (hj : j < 5) :
    w.cell? ⟨bk, (x - 1).toNat * 5 + j, none⟩ = (S.blk x).cells[j]? := by
  have h1 := hx.1; have h2 := hx.2
  have ho := h.blocks
  rw [hb] at ho
  rw [ho.cellAt _ (by omega)]
  exact flat_get (fun b => b.cells_len) S.blks _ j _ (S.blk_get hx) hj

theorem IsPool.lt (h : IsPool w B m L S) {k : Nat} (hk : L.own S.W k) : B ≤ k ∧ k < w.heap.size := by
  rcases hk with rfl | rfl | hk | ⟨j, hj, hk⟩
  · exact ⟨h.pB, h.top.lt⟩
  · exact ⟨h.shB, h.shards.lt⟩
  · exact h.blocks.lt k hk
  · exact (h.rows j hj).lt k hk
theorem IsPool.turn {F : Nat → Prop} (h : IsPool w B m L S) (ht : Turn F w w') (hF : ∀ k, L.own S.W k → ¬ F k) : IsPool w' B m L S :=
  ⟨h.top.turn ht (hF _ (.inl rfl)), h.sc, own_turn h.blocks ht (fun g hg => hF g (.inr (.inr (.inl hg)))), h.shards.turn ht (hF _ (.inr (.inl rfl))),
    fun k hk => own_turn (h.rows k hk) ht (fun g hg => hF g (.inr (.inr (.inr ⟨k, hk, hg⟩)))), h.dis, h.pB, h.shB, h.ok⟩
theorem IsPool.drewN (h : IsPool w B m L S) (n : Nat) : IsPool (w.drewN n) B m L S := h.turn ((Turn.refl (fun _ => False) w).drewN n) (fun _ _ h => h)
theorem IsPool.drew (h : IsPool w B m L S) : IsPool w.drew B m L S := h.turn ((Turn.refl (fun _ => False) w).drew) (fun _ _ h => h)
theorem IsPool.alloc (h : IsPool w B m L S) (o : Obj) : IsPool (w.alloc o) B m L S := h.turn ((Turn.refl (fun _ => False) w).alloc o) (fun _ _ h => h)

theorem shard_raw {p sh W : Nat} (c9 : w.cell? ⟨p, 9, none⟩ = some (.slice (some ⟨sh, 0, none⟩) W W)) (v : Nat) (hv : v < W) : Calls Try.prog 36 #[.pointer (some ⟨p, 0, none⟩), .int .i64 v] w fun e w' => e = .returned (.pointer (some ⟨sh, v * 4, none⟩)) ∧ w = w' := by
  go_enter Try.func36, Try.ntmps36
  go_wp2
  go_ret
  exact ⟨rfl, rfl⟩
theorem shard_in (h : IsPool w B m L S) (v : Nat) (hv : v < S.W) : Calls Try.prog 36 #[.pointer (some ⟨L.p, 0, none⟩), .int .i64 v] w fun e w' => e = .returned (.pointer (some ⟨L.sh, v * 4, none⟩)) ∧ w = w' :=
  shard_raw h.cell9 v hv
theorem shard_out (h : IsPool w B m L S) (v : Int) (hv : v < 0 ∨ S.W ≤ v) : Calls Try.prog 36 #[.pointer (some ⟨L.p, 0, none⟩), .int .i64 v] w fun e w' => e = .returned (.pointer none) ∧ w = w' := by
  have c9 := h.cell9
  have hW := h.ok.W2
  generalize L.sh = sh at c9
  generalize S.W = W at *
  generalize L.p = p at *
  clear h
  by_cases h0 : v < 0
  · clear hv
    go_enter Try.func36, Try.ntmps36
    go_wp2
    go_ret
    exact ⟨rfl, rfl⟩
  · have h1 : (W : Int) ≤ v := by omega
    clear hv
    go_enter Try.func36, Try.ntmps36
    go_wp2
    go_ret
    exact ⟨rfl, rfl⟩
theorem shard_nil (v : Int) (w : World) : Calls Try.prog 36 #[.pointer none, .int .i64 v] w fun e w' => e = .returned (.pointer none) ∧ w = w' := by
  go_enter Try.func36, Try.ntmps36
  go_wp2
  go_ret
  exact ⟨rfl, rfl⟩
theorem block_raw {p bk N cap : Nat} (c8 : w.cell? ⟨p, 8, none⟩ = some (.slice (some ⟨bk, 0, none⟩) N cap)) (hN : N ≤ 192000) (x : Int) (h1 : 1 ≤ x) (h2 : x ≤ N) :
    Calls Try.prog 37 #[.pointer (some ⟨p, 0, none⟩), .int .i64 x] w fun e w' => e = .returned (.pointer (some ⟨bk, (x - 1).toNat * 5, none⟩)) ∧ w = w' := by
  obtain ⟨k, hk⟩ : ∃ k : Nat, x - 1 = k := ⟨(x - 1).toNat, by omega⟩
  obtain rfl : x = (k : Int) + 1 := by omega
  have hkN : k < N := by omega
  rw [show ((k : Int) + 1 - 1).toNat = k by omega]
  have hnot : ¬ ((k : Int) + 1 < 1) := by omega
  have hle : ¬ ((N : Int) < (k : Int) + 1) := by omega
  clear hk
  go_enter Try.func37, Try.ntmps37
  go_wp2
  go_ret
  exact ⟨rfl, rfl⟩
theorem block_in (h : IsPool w B m L S) {bk cap : Nat} (hb : L.bv = .slice (some ⟨bk, 0, none⟩) S.blks.length cap) (x : Int) (hx : S.there x) :
    Calls Try.prog 37 #[.pointer (some ⟨L.p, 0, none⟩), .int .i64 x] w fun e w' => e = .returned (.pointer (some ⟨bk, (x - 1).toNat * 5, none⟩)) ∧ w = w' :=
  block_raw (hb ▸ h.cell8) h.ok.N x hx.1 hx.2
theorem block_out (h : IsPool w B m L S) (x : Int) (hx : ¬ S.there x) : Calls Try.prog 37 #[.pointer (some ⟨L.p, 0, none⟩), .int .i64 x] w fun e w' => e = .returned (.pointer none) ∧ w = w' := by
  have c8 := h.cell8
  obtain ⟨a, cap, hb⟩ := h.bvForm'
  rw [hb] at c8
  have hN := h.ok.N
  unfold PS.there at hx
  generalize S.blks.length = N at *
  generalize L.p = p at *
  clear h hb
  by_cases h1 : x < 1
  · clear hx
    go_enter Try.func37, Try.ntmps37
    go_wp2
    go_ret
    exact ⟨rfl, rfl⟩
  · have h2 : (N : Int) < x := by omega
    clear hx
    go_enter Try.func37, Try.ntmps37
    go_wp2
    go_ret
    exact ⟨rfl, rfl⟩
theorem block_nil (x : Int) (w : World) : Calls Try.prog 37 #[.pointer none, .int .i64 x] w fun e w' => e = .returned (.pointer none) ∧ w = w' := by
  go_enter Try.func37, Try.ntmps37
  go_wp2
  go_ret
  exact ⟨rfl, rfl⟩
end

/-- front: x ahead of a row. -/
theorem front_any (w : World) (base : Nat) (v : Value) (x : Int) (l : List Int) (h : RowI w base v l) (hl : l.length ≤ 1000000) (hbase : base ≤ w.heap.size) :
    Calls Try.prog 41 #[v, .int .i64 x] w (RowPost w base v (x :: l)) := by
  have C := Lib.hid (insert_front (w.alloc (.cells #[.int .i64 x] 3)) base w.heap.size v x l (h.alloc _) (Blk.new w _ _) (fun hg => by have := (h.lt _ hg).2; omega) hl (by simp; omega))
  clear h hl hbase
  go_enter Try.func41, Try.ntmps41
  go_wp2_with fail
  refine C.out.mono ?_
  rintro e w' ⟨v', rfl, h1, h2, h3⟩
  have H1 := Lib.hid h1; have H2 := Lib.hid h2; have H3 := Lib.hid h3
  clear h1 h2 h3 C
  go_wp2_with fail
  go_ret
  refine ⟨_, rfl, H1.out, Turn.trans ((Turn.refl _ w).alloc _) H2.out (fun k hk => .inl hk), ?_⟩
  rcases H3.out with a | ⟨g, a, b⟩
  · exact .inl a
  · exact .inr ⟨g, a, by simp at b; omega⟩

end Go.Proofs.Ytccadafajocbgaa
