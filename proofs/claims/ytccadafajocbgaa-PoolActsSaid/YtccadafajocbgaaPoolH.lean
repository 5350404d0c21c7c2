/- Layer 10: Drain. -/
import Derived.Test.YtccadafajocbgaaPoolG
open Go Go.RowKit
namespace Go.Proofs.Ytccadafajocbgaa

section
variable {w w1 w' wr : World} {B m a b : Nat} {L Lk : PLay} {S : PS} {M : MemS}

theorem drain_out (h : IsPool w B m L S) (v : Int) (hv : v < 0 ∨ S.W ≤ v) : Calls Try.prog 19 #[.pointer (some ⟨L.p, 0, none⟩), .int .i64 v] w fun e w' => e = .returned (.int .i64 0) ∧ w = w' := by
  have CS := Lib.hid (shard_out h v hv)
  clear h hv
  go_enter Try.func19, Try.ntmps19
  go_wp2_with fail
  refine CS.out.mono ?_
  rintro e w1 ⟨rfl, rfl⟩
  go_wp2_with fail
  go_ret
  exact ⟨rfl, rfl⟩
theorem drain_nil (v : Int) (w : World) : Calls Try.prog 19 #[.pointer none, .int .i64 v] w fun e w' => e = .returned (.int .i64 0) ∧ w = w' := by
  have CS := Lib.hid (shard_nil v w)
  go_enter Try.func19, Try.ntmps19
  go_wp2_with fail
  refine CS.out.mono ?_
  rintro e w1 ⟨rfl, rfl⟩
  go_wp2_with fail
  go_ret
  exact ⟨rfl, rfl⟩

/-- In a Drain of worker q, behind k rounds. -/
structure DrainI (w : World) (B m : Nat) (L : PLay) (S : PS) (q k : Nat) (Lk : PLay) (wr : World) : Prop where
  lies : Lies wr B m Lk (S.homeAll ((S.row (4 * q + 3)).take k))
  p : Lk.p = L.p
  sh : Lk.sh = L.sh
  bv : Lk.bv = L.bv
  V : Lk.V (4 * q + 3) = L.V (4 * q + 3)
  turn : Turn (fun g => L.own S.W g) w wr
  own : ∀ g, Lk.own S.W g → L.own S.W g ∨ w.heap.size ≤ g

theorem DrainI.start (h : IsPool w B m L S) (q : Nat) : DrainI w B m L S q 0 L w := ⟨h.lies, rfl, rfl, rfl, rfl, Turn.refl _ _, fun _ hg => .inl hg⟩

theorem DrainI.step {q k c : Nat} {u : World} {x : Int} {v' : Value} (h : DrainI w B m L S q k Lk wr) (hx : (S.row (4 * q + 3))[k]? = some x) (ho : S.home x = q * 4 + c) (hc : c < 3) (hq : q < S.W)
    (ht : Turn (fun g => (Lk.V (q * 4 + c)).ownBlock = some g) wr u) (h1 : RowI u B v' (x :: (S.homeAll ((S.row (4 * q + 3)).take k)).row (q * 4 + c)))
    (h3 : v'.ownBlock = (Lk.V (q * 4 + c)).ownBlock ∨ ∃ g, v'.ownBlock = some g ∧ wr.heap.size ≤ g) :
    DrainI w B m L S q (k + 1) (Lk.setV (q * 4 + c) v') (u.setCell ⟨L.sh, q * 4 + c, none⟩ v') := by
  have hW := PS.homeAll_W S ((S.row (4 * q + 3)).take k)
  have hkW : q * 4 + c < 4 * S.W := by omega
  have e : S.homeAll ((S.row (4 * q + 3)).take (k + 1)) = (S.homeAll ((S.row (4 * q + 3)).take k)).setRow (q * 4 + c) (x :: (S.homeAll ((S.row (4 * q + 3)).take k)).row (q * 4 + c)) := by
    rw [List.take_add_one, hx, Option.toList_some, PS.homeAll_snoc, ho]
  have l2 := Lies.setRow h.lies (k := q * 4 + c) (by rw [hW]; exact hkW) h1 ht (ob1 h3)
  have kin : ∀ g, (Lk.V (q * 4 + c)).ownBlock = some g → L.own S.W g ∨ w.heap.size ≤ g := fun g hg => h.own g (.inr (.inr (.inr ⟨_, hkW, hg⟩)))
  refine ⟨by rw [e, ← h.sh]; exact l2, h.p, h.sh, h.bv, ?_, ?_, ?_⟩
  · simp only [PLay.setV]
    rw [if_neg (by omega)]; exact h.V
  · exact (h.turn.trans ht kin).setCell (F := fun g => L.own S.W g) (p := ⟨L.sh, q * 4 + c, none⟩) (.inl (.inr (.inl rfl))) _
  · intro g hg
    rcases PLay.own_setV (ob1 h3) hkW hg with a | a
    · exact h.own g a
    · exact .inr (Nat.le_trans h.turn.size a)

theorem DrainI.cells {q k c z bk bc : Nat} {x : Int} (h : DrainI w B m L S q k Lk wr) (hx : S.there x) (hc : q * 4 + c < 4 * S.W) (hb : L.bv = .slice (some ⟨bk, 0, none⟩) S.blks.length bc) (hz : z = (x - 1).toNat) {u : World}
    (ht : Turn (fun g => (Lk.V (q * 4 + c)).ownBlock = some g) wr u) : Cells u L.p L.sh bk m (q * 4 + c) z (Lk.V (q * 4 + c)) (S.blk x) := by
  have := h.lies.rowKeep (k := q * 4 + c) (by rw [PS.homeAll_W]; exact hc) ht (x := x) ((PS.homeAll_there _ _ _).2 hx) (bk := bk) (cap := bc) (by rw [(PS.homeAll_same _ _).2, h.bv]; exact hb) hz
  rwa [h.p, h.sh, PS.homeAll_blk] at this

/-- Behind all rounds, the remote row is stored. -/
theorem DrainI.done {q : Nat} (h : DrainI w B m L S q (S.row (4 * q + 3)).length Lk wr) (hP : IsPool w B m L S) (hM : IsMem w m a b M) (hq : q < S.W) :
    Pools w B m a b L (Lk.setV (q * 4 + 3) (.slice none 0 0)) S (S.drainS q) M (wr.setCell ⟨L.sh, q * 4 + 3, none⟩ (.slice none 0 0)) := by
  have hkW : q * 4 + 3 < 4 * S.W := by omega
  have l1 := h.lies
  rw [List.take_length] at l1
  have h3 : ∀ g, (Value.slice none 0 0).ownBlock = some g → (Lk.V (q * 4 + 3)).ownBlock = some g ∨ wr.heap.size ≤ g := fun g hg => by simp [Value.ownBlock] at hg
  have l2 := Lies.setRow l1 (k := q * 4 + 3) (l := []) (v' := .slice none 0 0) (by rw [PS.homeAll_W]; exact hkW) (World.ownsRow_nil _ _ _ _) (Turn.refl _ _) h3
  rw [h.sh] at l2
  have e : (S.homeAll (S.row (4 * q + 3))).setRow (q * 4 + 3) [] = S.drainS q := by unfold PS.drainS; rw [show q * 4 + 3 = 4 * q + 3 by omega]
  rw [e] at l2
  have hT : Turn (fun k => L.own S.W k) w (wr.setCell ⟨L.sh, q * 4 + 3, none⟩ (.slice none 0 0)) := h.turn.setCell (F := fun g => L.own S.W g) (p := ⟨L.sh, q * 4 + 3, none⟩) (.inl (.inr (.inl rfl))) _
  have ap := hP.apart hM
  have hWd : (S.drainS q).W = S.W := PS.homeAll_W S _
  refine ⟨l2.pool (hP.ok.drain hq), hM.turn hT (fun e => (ap m e).1 rfl) (fun e => (ap a e).2.1 rfl) (fun e => (ap b e).2.2 rfl), h.p, hWd, hT.mono (fun k hk => .inl (.inr hk)), fun g hg => ?_⟩
  rw [hWd] at hg
  rcases PLay.own_setV h3 hkW hg with a | a
  · exact h.own g a
  · exact .inr (Nat.le_trans h.turn.size a)

/-- All that a round of Drain reads and does. -/
structure DrainR (w : World) (B m : Nat) (L : PLay) (S : PS) (q k : Nat) (Lk : PLay) (wr : World) (p sh : Nat) (va : Option Addr) (x : Int) (g bk z c n' : Nat) (ua : Option Addr) (uc : Nat) (l : List Int) (bx : PB) : Prop where
  va : va = some ⟨g, 0, none⟩
  cx : wr.cell? ⟨g, k, none⟩ = some (.int .i64 x)
  blk : Calls Try.prog 37 #[.pointer (some ⟨p, 0, none⟩), .int .i64 x] wr fun e w' => e = .returned (.pointer (some ⟨bk, z * 5, none⟩)) ∧ wr = w'
  cells : ∀ u, Turn (fun g => (Value.slice ua n' uc).ownBlock = some g) wr u → Cells u p sh bk m (q * 4 + c) z (.slice ua n' uc) bx
  cls : bx.cls = c
  c3 : c < 3
  short : n' ≤ 400000
  front : Calls Try.prog 41 #[.slice ua n' uc, .int .i64 x] wr.drew (RowPost wr.drew B (.slice ua n' uc) (x :: l))
  step : ∀ u v', Turn (fun g => (Value.slice ua n' uc).ownBlock = some g) wr u → RowI u B v' (x :: l) → (v'.ownBlock = (Value.slice ua n' uc).ownBlock ∨ ∃ g, v'.ownBlock = some g ∧ wr.heap.size ≤ g) →
    ∃ Lk', DrainI w B m L S q (k + 1) Lk' (u.setCell ⟨sh, q * 4 + c, none⟩ v')

theorem DrainI.round {q k : Nat} (h : DrainI w B m L S q k Lk wr) (hP : IsPool w B m L S) (hq : q < S.W) (hB : B ≤ w.heap.size) (hk : k < (S.row (4 * q + 3)).length) {va : Option Addr} {vc : Nat} (hV : L.V (4 * q + 3) = .slice va (S.row (4 * q + 3)).length vc) :
    ∃ x g bk z c n' ua uc l bx, DrainR w B m L S q k Lk wr L.p L.sh va x g bk z c n' ua uc l bx := by
  obtain ⟨x, hx⟩ : ∃ x, (S.row (4 * q + 3))[k]? = some x := ⟨_, List.getElem?_eq_getElem hk⟩
  have hkW : 4 * q + 3 < 4 * S.W := by omega
  obtain ⟨m1, m2, m3⟩ := hP.ok.mem _ hkW x (List.mem_of_getElem? hx)
  obtain ⟨p1, p2, -, -⟩ := hP.ok.place x m1
  have ho : (S.blk x).owner = q := by unfold PS.home PS.far at m3; omega
  have hh : S.home x = q * 4 + (S.blk x).cls := by unfold PS.home; omega
  have hW := PS.homeAll_W S ((S.row (4 * q + 3)).take k)
  obtain ⟨bk, bc, hb⟩ := hP.bvForm (by have := m1.1; have := m1.2; omega)
  have hlast := h.lies.rows (4 * q + 3) (by rw [hW]; exact hkW)
  rw [PS.homeAll_far _ _ _ (fun y hy => hP.ok.home_far hq y (List.mem_of_mem_take hy)), h.V] at hlast
  obtain ⟨g, cap, hv, _, _⟩ := hlast.form (by omega)
  have hva : va = some ⟨g, 0, none⟩ := by
    have := hV.symm.trans hv
    injection this
  have hkc : q * 4 + (S.blk x).cls < 4 * (S.homeAll ((S.row (4 * q + 3)).take k)).W := by rw [hW]; omega
  have hrow := h.lies.rows _ hkc
  obtain ⟨ua, uc, hu⟩ := rowLen hrow
  have hlen : ((S.homeAll ((S.row (4 * q + 3)).take k)).row (q * 4 + (S.blk x).cls)).length ≤ 384000 := by
    have h1 := PS.homeAll_len ((S.row (4 * q + 3)).take k) S (q * 4 + (S.blk x).cls)
    have h2 := hP.ok.short (k := q * 4 + (S.blk x).cls) (by omega)
    have h3 := hP.ok.short hkW
    have h4 : ((S.row (4 * q + 3)).take k).length ≤ (S.row (4 * q + 3)).length := by rw [List.length_take]; omega
    omega
  have c8 : wr.cell? ⟨L.p, 8, none⟩ = some (.slice (some ⟨bk, 0, none⟩) S.blks.length bc) := by
    have := (h.lies.top.cell 8).trans (Lk.top_bv m _ h.lies.sc)
    rw [h.p, h.bv, hb] at this
    exact this
  refine ⟨x, g, bk, (x - 1).toNat, (S.blk x).cls, ((S.homeAll ((S.row (4 * q + 3)).take k)).row (q * 4 + (S.blk x).cls)).length, ua, uc, (S.homeAll ((S.row (4 * q + 3)).take k)).row (q * 4 + (S.blk x).cls), S.blk x, hva, ?_, block_raw c8 hP.ok.N x m1.1 m1.2, ?_, rfl, p2, by omega, ?_, ?_⟩
  · have cx := hlast.cells (g := g) (by rw [hv]; rfl) k (.int .i64 x) (by rw [List.getElem?_map, hx]; rfl)
    rwa [Addr.add_lit, Nat.zero_add] at cx
  · intro u ht
    rw [← hu] at ht ⊢
    exact h.cells m1 (by omega) hb rfl ht
  · rw [← hu]
    refine front_any wr.drew B _ x _ (own_turn hrow ((Turn.refl (fun _ => False) wr).drew) (fun _ _ h => h)) (by omega) ?_
    have := h.turn.size
    simp; omega
  · intro u v' ht h1 h3
    rw [← hu] at ht h3
    exact ⟨_, h.step hx hh p2 hq ht h1 h3⟩

set_option maxHeartbeats 2000000 in
theorem drain_in {q : Nat} (h : IsPool w B m L S) (hM : IsMem w m a b M) (hq : q < S.W) (hB : B ≤ w.heap.size) :
    Calls Try.prog 19 #[.pointer (some ⟨L.p, 0, none⟩), .int .i64 q] w (PoolPost w B m a b L S (S.drainS q) M (.int .i64 (S.row (4 * q + 3)).length)) := by
  have CS := Lib.hid (shard_in h q hq)
  have hk : 4 * q + 3 < 4 * S.W := by omega
  have c3 := h.cellR hk
  obtain ⟨va, vc, hV⟩ := rowLen (h.rows _ hk)
  rw [hV] at c3
  rw [show 4 * q + 3 = q * 4 + 3 by omega] at c3 
  have hrl := h.ok.short hk
  have HP := Lib.hid h; have HM := Lib.hid hM; have HV := Lib.hid hV
  have KR := Lib.hid (fun (k : Nat) (Lk : PLay) (wr : World) (hd : DrainI w B m L S q k Lk wr) hk => hd.round h hq hB hk hV)
  have HD := Lib.hid (fun (Lk : PLay) (wr : World) (hd : DrainI w B m L S q (S.row (4 * q + 3)).length Lk wr) => hd.done h hM hq)
  obtain ⟨n, hn⟩ : ∃ n, n = (S.row (4 * q + 3)).length := ⟨_, rfl⟩
  rw [← hn] at hrl HD KR ⊢
  rw [show (S.row (q * 4 + 3)).length = n by rw [hn, show q * 4 + 3 = 4 * q + 3 by omega]] at c3
  have HN := Lib.hid hn
  obtain ⟨p, hp⟩ : ∃ p, p = L.p := ⟨_, rfl⟩
  obtain ⟨sh, hsh⟩ : ∃ sh, sh = L.sh := ⟨_, rfl⟩
  rw [← hp] at CS KR ⊢
  rw [← hsh] at CS c3 HD KR
  have HPp := Lib.hid hp; have HSH := Lib.hid hsh
  clear h hM hV hk hn hp hsh hB
  go_enter Try.func19, Try.ntmps19
  go_wp2_with fail
  refine CS.out.mono ?_
  rintro e w1 ⟨rfl, rfl⟩
  go_wp2_with fail
  go_loopw [8, 9, 25] (fun t8 t9 t25 wr => ∃ k Lk, k ≤ n ∧ t25 = .int .i64 (k : Nat) ∧ DrainI w B m L S q k Lk wr) (fun _ _ t _ => n - (intOf t).toNat)
  case atStart => exact ⟨0, L, by omega, rfl, DrainI.start HP.out q⟩
  case round =>
    obtain ⟨k, Lk, hkn, rfl, hi⟩ := hrel
    have HI := Lib.hid hi
    clear hi
    by_cases hlt : k < n
    · obtain ⟨x, g, bk, z, c, n', ua, uc, l, bx, hr⟩ := KR.out k Lk wr HI.out hlt
      have HR := Lib.hid hr
      obtain ⟨rfl, cx, -, -, -, hc3, hsh', -, -⟩ := hr
      obtain ⟨-, c0, -, -, -, b3, -, fv, -⟩ := HR.out.cells wr (Turn.refl _ _)
      rw [HR.out.cls] at b3
      have i0 : (0 : Int) ≤ (c : Int) := by omega
      have i1 : (c : Int) < 3 := by omega
      clear c3
      go_wp2_with fail
      refine HR.out.blk.mono ?_
      rintro e w1 ⟨rfl, rfl⟩
      go_wp2_with fail
      go_region_with (go_at_call 41; refine HR.out.front.mono ?_; rintro e w3 ⟨v', rfl, h1, ht, h3⟩; obtain ⟨ua', uc', rfl⟩ := rowLen h1; clear c0 b3 fv cx; obtain ⟨-, c0, -, -, -, b3, -, fv, -⟩ := HR.out.cells w3 (Turn.trans ((Turn.refl _ wr).drew) ht (fun k hk => .inl hk)); have HS := Lib.hid (HR.out.step w3 _ (Turn.trans ((Turn.refl _ wr).drew) ht (fun k hk => .inl hk)) h1 h3); clear h1 ht h3)
      all_goals go_wp2_with fail
      all_goals
        go_roundw
        case rel =>
          obtain ⟨Lk', hd⟩ := HS.out
          exact ⟨k + 1, Lk', by omega, by go_num, hd⟩
        case measure => simp [intOf]; omega
    · obtain rfl : k = n := by omega
      have HE := Lib.hid (HD.out Lk wr HI.out)
      have HL := HI.out.lies
      obtain ⟨Vv, fv⟩ : wr.cell? ⟨sh, q * 4 + 3, none⟩ = some (Lk.V (q * 4 + 3)) ∧ wr.frozen? ⟨sh, q * 4 + 3, none⟩ = false := by
        rw [HSH.out, ← HI.out.sh]
        exact ⟨by rw [HL.shards.cell, List.getElem?_map, List.getElem?_range (by rw [PS.homeAll_W]; omega)]; rfl, HL.shards.free _⟩
      generalize Lk.V (q * 4 + 3) = v3 at Vv
      clear c3 HL
      go_wp2_with fail
      go_ret
      exact ⟨rfl, _, HE.out⟩
end

end Go.Proofs.Ytccadafajocbgaa
