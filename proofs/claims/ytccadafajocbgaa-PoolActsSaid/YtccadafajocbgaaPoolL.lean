/- Layer 10: New of a pool that may be. -/
import Derived.Test.YtccadafajocbgaaPoolK
import Derived.Test.YtccadafajocbgaaRegU
open Go Go.RowKit
namespace Go.Proofs.Ytccadafajocbgaa

def PLay.setB (L : PLay) (v : Value) : PLay := { L with bv := v }

section
variable {w w1 w' wr : World} {B m a b : Nat} {L : PLay} {S : PS} {M : MemS}

/-- A block more. -/
theorem Lies.addB (h : Lies w B m L S) {u : World} {v' : Value} {x : PB} (h1 : u.ownsRow B 73 5 v' (S.blks.length + 1) ((S.blks ++ [x]).flatMap PB.cells)) (h2 : Turn (fun g => L.bv.ownBlock = some g) w u) :
    Lies (u.setCell ⟨L.p, 8, none⟩ v') B m (L.setB v') { S with blks := S.blks ++ [x] } := by
  have nt : ∀ {b' : Nat} {c : List Value} {t : TypeId}, Blk w b' c t → 73 ≠ t → ¬ L.bv.ownBlock = some b' := fun hb hne => own_ne_type h.blocks hb hne
  have ht1 := h.top.turn h2 (nt h.top (by decide))
  have hT : Turn (fun g => g = L.p) u (u.setCell ⟨L.p, 8, none⟩ v') := Turn.setCell (F := fun g => g = L.p) (p := ⟨L.p, 8, none⟩) (Turn.refl _ _) (.inl rfl) _
  have htop := ht1.set 8 v'
  have e : (L.cells m S.W).set 8 v' = (L.setB v').cells m S.W := by
    unfold PLay.cells PLay.setB
    have hs := h.sc
    match hL : L.sc, hs with
    | [c0, c1, c2, c3, c4, c5, c6], _ => rfl
  rw [e] at htop
  refine ⟨htop, h.sc, ?_, ?_, ?_, h.dis, h.pB, h.shB⟩
  · show (u.setCell _ _).ownsRow B 73 5 v' (S.blks ++ [x]).length ((S.blks ++ [x]).flatMap PB.cells)
    rw [List.length_append, List.length_singleton]
    exact own_turn h1 hT (fun g hg e => by subst e; exact own_ne_type h1 ht1 (by decide) hg)
  · exact (h.shards.turn h2 (nt h.shards (by decide))).turn hT (fun e => h.shards.ne_type h.top (by decide) e)
  · intro k hk
    refine own_turn (own_turn (h.rows k hk) h2 (fun g hg hg2 => own_ne_own h.blocks (h.rows k hk) (by decide) g hg2 hg)) hT (fun g hg e => ?_)
    subst e
    exact own_ne_type (h.rows k hk) h.top (by decide) hg

/-- While a pool is made: N blocks are there. -/
structure NewI (w : World) (B m : Nat) (s : Shp) (base p sh bx : Nat) (rows : Nat → List Int) (N : Nat) (L : PLay) (wr : World) : Prop where
  lies : Lies wr B m L ⟨s.W, (List.range N).map (s.place base), rows⟩
  p : L.p = p
  sh : L.sh = sh
  box : boxed s wr bx
  turn : Turn (fun _ => False) w wr
  own : ∀ g, L.own s.W g → w.heap.size ≤ g
  bx : w.heap.size ≤ bx

theorem NewI.alloc {s : Shp} {base p sh bx N : Nat} {rows : Nat → List Int} (h : NewI w B m s base p sh bx rows N L wr) (o : Obj) : NewI w B m s base p sh bx rows N L (wr.alloc o) :=
  ⟨h.lies.turn ((Turn.refl (fun _ => False) wr).alloc o) (fun _ _ h => h), h.p, h.sh, h.box.alloc o, h.turn.alloc o, h.own, h.bx⟩
theorem NewI.drewN {s : Shp} {base p sh bx N : Nat} {rows : Nat → List Int} (h : NewI w B m s base p sh bx rows N L wr) (n : Nat) : NewI w B m s base p sh bx rows N L (wr.drewN n) :=
  ⟨h.lies.turn ((Turn.refl (fun _ => False) wr).drewN n) (fun _ _ h => h), h.p, h.sh, h.box.drewN n, h.turn.drewN n, h.own, h.bx⟩
theorem NewI.drew {s : Shp} {base p sh bx N : Nat} {rows : Nat → List Int} (h : NewI w B m s base p sh bx rows N L wr) : NewI w B m s base p sh bx rows N L wr.drew :=
  ⟨h.lies.drew, h.p, h.sh, h.box.drew, h.turn.drew, h.own, h.bx⟩

theorem NewI.addB {s : Shp} {base p sh bx N : Nat} {rows : Nat → List Int} (h : NewI w B m s base p sh bx rows N L wr) {u : World} {v' : Value} {x : PB} (hx : s.place base N = x)
    (h1 : u.ownsRow B 73 5 v' (N + 1) (((List.range N).map (s.place base)).flatMap PB.cells ++ x.cells)) (h2 : Turn (fun g => L.bv.ownBlock = some g) wr u)
    (h3 : v'.ownBlock = L.bv.ownBlock ∨ ∃ g, v'.ownBlock = some g ∧ wr.heap.size ≤ g) : NewI w B m s base p sh bx rows (N + 1) (L.setB v') (u.setCell ⟨p, 8, none⟩ v') := by
  have e : (List.range (N + 1)).map (s.place base) = (List.range N).map (s.place base) ++ [x] := by rw [List.range_succ, List.map_append, ← hx]; rfl
  have hl := h.lies.addB (u := u) (v' := v') (x := x) (by simpa using h1) h2
  have hpp := h.p
  have hbox : boxed s u bx := h.box.turn h2 (own_ne_type h.lies.blocks h.box (by decide))
  have hne : bx ≠ L.p := h.box.ne_type h.lies.top (by decide)
  refine ⟨by rw [e, ← hpp]; exact hl, h.p, h.sh, ?_, ?_, ?_, h.bx⟩
  · rw [← hpp]
    exact hbox.other (p := ⟨L.p, 8, none⟩) hne _
  · rw [← hpp]
    exact (h.turn.trans h2 (fun g hg => .inr (h.own g (.inr (.inr (.inl hg)))))).setCell (p := ⟨L.p, 8, none⟩) (.inr (h.own _ (.inl rfl))) _
  · intro g hg
    rcases hg with hg | hg | hg | hg
    · exact h.own g (.inl hg)
    · exact h.own g (.inr (.inl hg))
    · rcases h3 with e3 | ⟨g', e3, hge⟩
      · exact h.own g (.inr (.inr (.inl (e3 ▸ hg))))
      · have hg' : v'.ownBlock = some g := hg
        rw [e3] at hg'; injection hg' with hg'; subst hg'
        exact Nat.le_trans h.turn.size hge
    · exact h.own g (.inr (.inr (.inr hg)))

theorem NewI.addR {s : Shp} {base p sh bx N k : Nat} {rows : Nat → List Int} (h : NewI w B m s base p sh bx rows N L wr) (hk : k < 4 * s.W) {u : World} {v' : Value} {l : List Int}
    (h1 : RowI u B v' l) (h2 : Turn (fun g => (L.V k).ownBlock = some g) wr u)
    (h3 : v'.ownBlock = (L.V k).ownBlock ∨ ∃ g, v'.ownBlock = some g ∧ wr.heap.size ≤ g) : NewI w B m s base p sh bx (fun j => if j = k then l else rows j) N (L.setV k v') (u.setCell ⟨sh, k, none⟩ v') := by
  have hl := Lies.setRow h.lies (k := k) hk h1 h2 (ob1 h3)
  have hsh := h.sh
  have hbox : boxed s u bx := h.box.turn h2 (own_ne_type (h.lies.rows k hk) h.box (by decide))
  have hne : bx ≠ L.sh := h.box.ne_type h.lies.shards (by decide)
  refine ⟨by rw [← hsh]; exact hl, h.p, h.sh, ?_, ?_, ?_, h.bx⟩
  · rw [← hsh]
    exact hbox.other (p := ⟨L.sh, k, none⟩) hne _
  · rw [← hsh]
    exact (h.turn.trans h2 (fun g hg => .inr (h.own g (.inr (.inr (.inr ⟨k, hk, hg⟩)))))).setCell (p := ⟨L.sh, k, none⟩) (.inr (h.own _ (.inr (.inl rfl)))) _
  · intro g hg
    rcases PLay.own_setV (ob1 h3) hk hg with a | a
    · exact h.own g a
    · exact Nat.le_trans h.turn.size a

theorem NewI.congr {s : Shp} {base p sh bx N : Nat} {rows rows' : Nat → List Int} (h : NewI w B m s base p sh bx rows N L wr) (he : ∀ k, k < 4 * s.W → rows k = rows' k) : NewI w B m s base p sh bx rows' N L wr :=
  ⟨⟨h.lies.top, h.lies.sc, h.lies.blocks, h.lies.shards, fun k hk => by have := h.lies.rows k hk; show RowI wr B (L.V k) (rows' k); rw [← he k hk]; exact this, h.lies.dis, h.lies.pB, h.lies.shB⟩, h.p, h.sh, h.box, h.turn, h.own, h.bx⟩
end

theorem Shp.rowAt_len {s : Shp} (h : s.Right) (N k : Nat) : (s.rowAt N k).length ≤ 1000 := by
  unfold Shp.rowAt
  by_cases h3 : k % 4 = 3
  · rw [if_pos h3]; simp
  · rw [if_neg h3]
    have := h.n1 (k % 4) (by omega)
    rw [List.length_map, List.length_range']
    omega

end Go.Proofs.Ytccadafajocbgaa
