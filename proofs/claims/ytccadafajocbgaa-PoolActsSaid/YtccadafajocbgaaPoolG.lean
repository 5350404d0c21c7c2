/- Layer 10: Give. -/
import Derived.Test.YtccadafajocbgaaPoolF
open Go Go.RowKit
namespace Go.Proofs.Ytccadafajocbgaa

theorem info_int10 : (Try.prog.info? 3).map (fun i => (i.zero, i.size, i.bytes)) = some (some (.int .i64 0), 1, 8) := by kernel_rfl

section
variable {w w1 w' : World} {B m a b : Nat} {L : PLay} {S : PS} {M : MemS}

theorem give_out (h : IsPool w B m L S) (v x : Int) (hv : v < 0 ∨ S.W ≤ v) : Calls Try.prog 17 #[.pointer (some ⟨L.p, 0, none⟩), .int .i64 v, .int .i64 x] w fun e w' => e = .returned (.int .i64 1) ∧ w = w' := by
  have CS := Lib.hid (shard_out h v hv)
  have CB : Hid (∃ r, Calls Try.prog 37 #[.pointer (some ⟨L.p, 0, none⟩), .int .i64 x] w fun e w' => e = .returned (.pointer r) ∧ w = w') := Lib.hid (by
    by_cases hx : S.there x
    · obtain ⟨bk, bc, hb⟩ := h.bvForm (by have := hx.1; have := hx.2; omega)
      exact ⟨_, block_in h hb x hx⟩
    · exact ⟨_, block_out h x hx⟩)
  obtain ⟨r, CB⟩ := CB.out
  have CB := Lib.hid CB
  clear h hv
  go_enter Try.func17, Try.ntmps17
  go_wp2_with fail
  refine CB.out.mono ?_
  rintro e w1 ⟨rfl, rfl⟩
  go_wp2_with fail
  refine CS.out.mono ?_
  rintro e w1 ⟨rfl, rfl⟩
  go_wp2_with fail
  go_ret
  exact ⟨rfl, rfl⟩

theorem give_nil (v x : Int) (w : World) : Calls Try.prog 17 #[.pointer none, .int .i64 v, .int .i64 x] w fun e w' => e = .returned (.int .i64 1) ∧ w = w' := by
  have CS := Lib.hid (shard_nil v w)
  have CB := Lib.hid (block_nil x w)
  go_enter Try.func17, Try.ntmps17
  go_wp2_with fail
  refine CB.out.mono ?_
  rintro e w1 ⟨rfl, rfl⟩
  go_wp2_with fail
  refine CS.out.mono ?_
  rintro e w1 ⟨rfl, rfl⟩
  go_wp2_with fail
  go_ret
  exact ⟨rfl, rfl⟩

theorem give_none (h : IsPool w B m L S) (q : Nat) (x : Int) (hq : q < S.W) (hx : ¬ S.there x) : Calls Try.prog 17 #[.pointer (some ⟨L.p, 0, none⟩), .int .i64 q, .int .i64 x] w fun e w' => e = .returned (.int .i64 12) ∧ w = w' := by
  have CS := Lib.hid (shard_in h q hq)
  have CB := Lib.hid (block_out h x hx)
  clear h hq hx
  go_enter Try.func17, Try.ntmps17
  go_wp2_with fail
  refine CB.out.mono ?_
  rintro e w1 ⟨rfl, rfl⟩
  go_wp2_with fail
  refine CS.out.mono ?_
  rintro e w1 ⟨rfl, rfl⟩
  go_wp2_with fail
  go_ret
  exact ⟨rfl, rfl⟩

theorem give_state (h : IsPool w B m L S) (q : Nat) (x : Int) (hq : q < S.W) (hx : S.there x) (ht : (S.blk x).taken = false) : Calls Try.prog 17 #[.pointer (some ⟨L.p, 0, none⟩), .int .i64 q, .int .i64 x] w fun e w' => e = .returned (.int .i64 11) ∧ w = w' := by
  have CS := Lib.hid (shard_in h q hq)
  obtain ⟨bk, bc, hb⟩ := h.bvForm (by have := hx.1; have := hx.2; omega)
  have CB := Lib.hid (block_in h hb x hx)
  have b4 := h.cellB hb hx 4 (by omega)
  simp only [PB.cells] at b4
  rw [ht] at b4
  obtain ⟨z, hz⟩ : ∃ z, z = (x - 1).toNat := ⟨_, rfl⟩
  rw [← hz] at b4 CB
  simp at b4
  clear h hq hx hb hz ht
  go_enter Try.func17, Try.ntmps17
  go_wp2_with fail
  refine CB.out.mono ?_
  rintro e w1 ⟨rfl, rfl⟩
  go_wp2_with fail
  refine CS.out.mono ?_
  rintro e w1 ⟨rfl, rfl⟩
  go_wp2_with fail
  go_ret
  exact ⟨rfl, rfl⟩

/-- What is known at a Give of x, which is taken. -/
structure GiveAt (w : World) (B m a b : Nat) (L : PLay) (S : PS) (M : MemS) (q : Nat) (x : Int) (bk bc z : Nat) : Prop where
  pool : IsPool w B m L S
  mem : IsMem w m a b M
  hq : q < S.W
  there : S.there x
  taken : (S.blk x).taken = true
  bv : L.bv = .slice (some ⟨bk, 0, none⟩) S.blks.length bc
  hz : z = (x - 1).toNat
theorem give_at (h : IsPool w B m L S) (hM : IsMem w m a b M) {q : Nat} (hq : q < S.W) {x : Int} (hx : S.there x) (ht : (S.blk x).taken = true) : ∃ bk bc z, GiveAt w B m a b L S M q x bk bc z := by
  obtain ⟨bk, bc, hb⟩ := h.bvForm (by have := hx.1; have := hx.2; omega)
  exact ⟨bk, bc, _, h, hM, hq, hx, ht, hb, rfl⟩

theorem give_fail {q bk bc z : Nat} {x : Int} (h : GiveAt w B m a b L S M q x bk bc z) (hc : M.tcode (S.blk x).pos (S.blk x).size false ≠ 0) :
    Calls Try.prog 17 #[.pointer (some ⟨L.p, 0, none⟩), .int .i64 q, .int .i64 x] w (PoolPost w B m a b L S S M (.int .i64 (M.tcode (S.blk x).pos (S.blk x).size false))) := by
  have CS := Lib.hid (shard_in h.pool q h.hq)
  have CB := Lib.hid (block_in h.pool h.bv x h.there)
  rw [← h.hz] at CB
  have hk : 0 < 4 * S.W := by have := h.hq; omega
  obtain ⟨p0, -, b0, b1, -, -, b4, -, -⟩ := h.pool.cells hk h.there h.bv h.hz
  have hT : M.turn (S.blk x).pos (S.blk x).size false = M := MemS.turn_ne hc
  have KC := Lib.hid (fun (v : World) (hv : IsPool v B m L S) => hv.cells hk h.there h.bv h.hz)
  have CL := Lib.hid (fun (v : World) (hv : IsMem v m a b M) => free_any m a b M (S.blk x).pos (S.blk x).size v hv)
  rw [hT] at CL
  rw [h.taken] at b4
  have hcb : (M.tcode (S.blk x).pos (S.blk x).size false == 0) = false := by simpa using hc
  have HP := Lib.hid h.pool; have HM := Lib.hid h.mem
  generalize M.tcode (S.blk x).pos (S.blk x).size false = code at *
  obtain ⟨bx, hbx⟩ : ∃ bx, bx = S.blk x := ⟨_, rfl⟩
  obtain ⟨p, hp⟩ : ∃ p, p = L.p := ⟨_, rfl⟩
  rw [← hbx] at b0 b1 CL KC
  rw [← hp] at p0 CS CB KC ⊢
  obtain ⟨bp, bs, bo, bcl, bt⟩ := bx
  simp only at b0 b1 CL
  clear h hc hk hp hbx hT
  go_enter Try.func17, Try.ntmps17
  go_wp2_with fail
  refine CB.out.mono ?_
  rintro e w1 ⟨rfl, rfl⟩
  go_wp2_with fail
  refine CS.out.mono ?_
  rintro e w1 ⟨rfl, rfl⟩
  go_wp2_with fail
  go_region_held3 (fun w' => w'.cell? ⟨p, 0, none⟩ = some (.pointer (some ⟨m, 0, none⟩)) ∧ w'.cell? ⟨bk, z * 5, none⟩ = some (.int .i64 bp) ∧ w'.cell? ⟨bk, z * 5 + 1, none⟩ = some (.int .i64 bs)) (((repeat' apply And.intro) <;> assumption))
    (first | (go_at_call 40; refine (CL.out _ HM.out.drew).mono ?_; rintro e w1 ⟨rfl, hm, ho⟩; have HM1 := Lib.hid hm; have HO1 := Lib.hid ho; have HP1 := Lib.hid (HP.out.drew.onlyM HM.out.drew ho); clear hm ho p0 b0 b1 b4; obtain ⟨p0, -, b0, b1, -, -, -, -, -⟩ := KC.out _ HP1.out))
  go_wp2_with fail
  go_ret
  exact ⟨rfl, L, HP1.out, HM1.out, rfl, rfl, ((Turn.refl _ w).drew.trans (Turn.of_only HO1.out) (fun k hk => .inl (.inl hk))), fun k hk => .inl hk⟩

/-- The world behind a Give: the block's flag was stored, then row k was turned and stored. -/
theorem pools_give {v u : World} {k : Nat} {x : Int} {l : List Int} {bk bc z : Nat} {v' : Value} (hv : IsPool v B m L S) (hM : IsMem v m a b M) (hx : S.there x) (ht : (S.blk x).taken = true) (hk : k = S.home x ∨ k = S.far x)
    (hb : L.bv = .slice (some ⟨bk, 0, none⟩) S.blks.length bc) (hz : z = (x - 1).toNat) (hl : ∀ y, y ∈ l ↔ y = x ∨ y ∈ S.row k) (hn : x ∉ S.row k → l.Nodup) (hT : Turn (fun g => (L.V k).ownBlock = some g) (v.setCell ⟨bk, z * 5 + 4, none⟩ (.bool false)) u) (h1 : RowI u B v' l)
    (h3 : v'.ownBlock = (L.V k).ownBlock ∨ ∃ g, v'.ownBlock = some g ∧ v.heap.size ≤ g) :
    Pools v B m a b L (L.setV k v') S ((S.setTaken x false).setRow k l) M (u.setCell ⟨L.sh, k, none⟩ v') := by
  have hbut := hv.ok.give hx ht
  have hx' : (S.setTaken x false).there x := PS.setTaken_there.2 hx
  have hk' : k = (S.setTaken x false).home x ∨ k = (S.setTaken x false).far x := by rw [PS.setTaken_home false hx hx.1, PS.setTaken_far false hx hx.1]; exact hk
  have hkW : k < 4 * S.W := by have := hbut.home_lt hx'; rcases hk' with rfl | rfl; exact this.1; exact this.2.1
  have hok : ((S.setTaken x false).setRow k l).Ok := (hbut.put hk' (l' := l) (fun y => hl y) (hn (fun hm => (hbut.mem k hkW x hm).2.2.2 (by simp)))).ok
  have l1 := hv.lies.setTaken (bk := bk) (cap := bc) hb (x := x) hx false
  rw [← hz] at l1
  have l2 := Lies.setRow l1 (k := k) hkW h1 hT (by simpa using ob1 h3)
  have ob : L.own S.W L.sh := .inr (.inl rfl)
  have ob2 : L.own S.W bk := .inr (.inr (.inl (by rw [hb]; rfl)))
  have ap := hv.apart hM
  have hT2 : Turn (fun k => L.own S.W k) v (u.setCell ⟨L.sh, k, none⟩ v') :=
    ((Turn.setCell (F := fun k => L.own S.W k) (p := ⟨bk, z * 5 + 4, none⟩) (Turn.refl _ v) (.inl ob2) (.bool false)).trans hT (fun g hg => .inl (.inr (.inr (.inr ⟨k, hkW, hg⟩))))).setCell (F := fun k => L.own S.W k) (p := ⟨L.sh, k, none⟩) (.inl ob) _
  exact ⟨l2.pool hok, hM.turn hT2 (fun e => (ap m e).1 rfl) (fun e => (ap a e).2.1 rfl) (fun e => (ap b e).2.2 rfl), rfl, rfl, hT2.mono (fun k hk => .inl (.inr hk)), fun g hg => PLay.own_setV (ob1 h3) hkW hg⟩

set_option maxHeartbeats 2000000 in
theorem give_home {bk bc z : Nat} {x : Int} (h : GiveAt w B m a b L S M (S.blk x).owner x bk bc z) (hc : M.tcode (S.blk x).pos (S.blk x).size false = 0) (hB : B ≤ w.heap.size) :
    Calls Try.prog 17 #[.pointer (some ⟨L.p, 0, none⟩), .int .i64 (S.blk x).owner, .int .i64 x] w
      (PoolPost w B m a b L S ((S.setTaken x false).setRow (S.home x) (x :: S.row (S.home x))) (M.turn (S.blk x).pos (S.blk x).size false) (.int .i64 0)) := by
  have hpl := h.pool.ok.place x h.there
  have CS := Lib.hid (shard_in h.pool _ h.hq)
  have CB := Lib.hid (block_in h.pool h.bv x h.there)
  rw [← h.hz] at CB
  have hk : S.home x < 4 * S.W := by unfold PS.home; omega
  have hrl := h.pool.ok.short hk
  have hhome : S.home x = (S.blk x).owner * 4 + (S.blk x).cls := by unfold PS.home; omega
  obtain ⟨p0, -, b0, b1, -, -, b4, -, -⟩ := h.pool.cells hk h.there h.bv h.hz
  obtain ⟨ne1, ne2⟩ := h.pool.lies.bk_sh h.bv
  have CL := Lib.hid (fun (v : World) (hv : IsMem v m a b M) => free_any m a b M (S.blk x).pos (S.blk x).size v hv)
  rw [hc] at CL
  rw [h.taken] at b4
  have HP := Lib.hid h.pool; have HM := Lib.hid h.mem
  have KC := Lib.hid (fun (v : World) (hv : IsPool v B m L S) => hv.cells hk h.there h.bv h.hz)
  have hx' : (S.setTaken x false).there x := PS.setTaken_there.2 h.there
  have hb' : L.bv = .slice (some ⟨bk, 0, none⟩) (S.setTaken x false).blks.length bc := by rw [PS.setTaken_len]; exact h.bv
  have KL := Lib.hid (fun (v : World) (hv : IsPool v B m L S) => (show Lies (v.setCell ⟨bk, z * 5 + 4, none⟩ (.bool false)) B m L (S.setTaken x false) from by rw [h.hz]; exact hv.lies.setTaken h.bv h.there false))
  have CS2 := Lib.hid (fun (v : World) (hv : Lies v B m L (S.setTaken x false)) => shard_raw hv.cell9 (S.blk x).owner h.hq)
  have KD := Lib.hid (fun (v u : World) (hv : Lies v B m L (S.setTaken x false)) (ht : Turn (fun g => (L.V (S.home x)).ownBlock = some g) v u) => hv.rowKeep hk ht hx' hb' h.hz)
  have CF := Lib.hid (fun (v : World) (hv : Lies v B m L (S.setTaken x false)) (hBv : B ≤ v.heap.size) => front_any v B (L.V (S.home x)) x (S.row (S.home x)) (hv.rows _ hk) (by omega) hBv)
  have KE := Lib.hid (fun (v u : World) (hv : IsPool v B m L S) (hu : IsMem v m a b (M.turn (S.blk x).pos (S.blk x).size false)) (ht : Turn (fun g => (L.V (S.home x)).ownBlock = some g) (v.setCell ⟨bk, z * 5 + 4, none⟩ (.bool false)) u) (v' : Value) (h1 : RowI u B v' (x :: S.row (S.home x)))
    (h3 : v'.ownBlock = (L.V (S.home x)).ownBlock ∨ ∃ g, v'.ownBlock = some g ∧ v.heap.size ≤ g) => pools_give hv hu h.there h.taken (.inl rfl) h.bv h.hz (fun y => by simp) (fun hn => List.nodup_cons.2 ⟨hn, hv.ok.nodup _ hk⟩) ht h1 h3)
  obtain ⟨va, vc, hV⟩ := rowLen (h.pool.rows _ hk)
  rw [hV] at KC KD CF KE
  rw [PS.setTaken_blk false h.there h.there.1, if_pos rfl] at KD
  have hcl := hpl.2.1
  rw [hhome] at KC KD CF KE hrl ⊢
  generalize M.turn (S.blk x).pos (S.blk x).size false = M' at *
  obtain ⟨l, hl⟩ : ∃ l, l = S.row ((S.blk x).owner * 4 + (S.blk x).cls) := ⟨_, rfl⟩
  rw [← hl] at KC KD CF KE hrl ⊢
  generalize (S.setTaken x false).setRow ((S.blk x).owner * 4 + (S.blk x).cls) (x :: l) = S' at *
  obtain ⟨bx, hbx⟩ : ∃ bx, bx = S.blk x := ⟨_, rfl⟩
  obtain ⟨p, hp⟩ : ∃ p, p = L.p := ⟨_, rfl⟩
  obtain ⟨sh, hsh⟩ : ∃ sh, sh = L.sh := ⟨_, rfl⟩
  obtain ⟨n, hn⟩ : ∃ n, n = l.length := ⟨_, rfl⟩
  rw [← hbx] at b0 b1 CL KC KD KE CS CS2 hcl ⊢
  rw [← hp] at p0 CS CB KC KD CS2 ⊢
  rw [← hsh] at CS KC KD KE CS2 ne1 ne2
  rw [← hn] at hrl KC KD KE CF
  obtain ⟨bp, bs, bo, bcl, bt⟩ := bx
  simp only at b0 b1 CL hcl
  simp only [] at KC KD KE CS CS2
  clear h hc hk hp hbx hpl hhome hb' hx' hV hsh hn hl
  go_enter Try.func17, Try.ntmps17
  go_wp2_with fail
  refine CB.out.mono ?_
  rintro e w1 ⟨rfl, rfl⟩
  go_wp2_with fail
  refine CS.out.mono ?_
  rintro e w1 ⟨rfl, rfl⟩
  go_wp2_with fail
  go_region_held3 (fun w' => w'.cell? ⟨p, 0, none⟩ = some (.pointer (some ⟨m, 0, none⟩)) ∧ w'.cell? ⟨bk, z * 5, none⟩ = some (.int .i64 bp) ∧ w'.cell? ⟨bk, z * 5 + 1, none⟩ = some (.int .i64 bs)) (((repeat' apply And.intro) <;> assumption))
    (first | (go_at_call 40; refine (CL.out _ HM.out.drew).mono ?_; rintro e w1 ⟨rfl, hm, ho⟩; have HM1 := Lib.hid hm; have HO1 := Lib.hid ho; have HP1 := Lib.hid (HP.out.drew.onlyM HM.out.drew ho); clear hm ho p0 b0 b1 b4; obtain ⟨p0, c0, b0, b1, b2, b3, b4, fv, fb⟩ := KC.out _ HP1.out))
  have HL := Lib.hid (KL.out _ HP1.out)
  go_wp2_with fail
  refine (CS2.out _ HL.out).mono ?_
  rintro e w2 ⟨rfl, rfl⟩
  go_wp2_with fail
  have HE := Lib.hid (fun u => KE.out w1 u HP1.out HM1.out)
  have hBw : B ≤ w1.heap.size := by have := HO1.out.size; simp at this; omega
  obtain ⟨W, hW⟩ : ∃ W, W = w1.setCell ⟨bk, z * 5 + 4, none⟩ (.bool false) := ⟨_, rfl⟩
  have hWs : W.heap.size = w1.heap.size := by rw [hW]; simp
  rw [← hW] at HL HE ⊢
  have HS := Lib.hid hWs
  clear p0 c0 b0 b1 b2 b3 b4 fv fb hW KE KC hWs
  obtain ⟨p0, c0, b0, b1, b2, b3, b4, fv, fb⟩ := KD.out W W HL.out (Turn.refl _ _)
  clear p0 b0 b1 b2 b4 fb
  have i0 : (0 : Int) ≤ (bcl : Int) := by omega
  have i1 : (bcl : Int) < 3 := by omega
  go_region_with (go_at_call 41; refine (CF.out _ HL.out.drew (by have := HS.out; simp; omega)).mono ?_; rintro e w3 ⟨v', rfl, h1, ht, h3⟩; obtain ⟨ua, uc, rfl⟩ := rowLen h1; clear c0 b3 fv; obtain ⟨-, c0, -, -, -, b3, -, fv, -⟩ := KD.out _ _ HL.out.drew ht; have H1 := Lib.hid h1; have HT := Lib.hid ht; have H3 := Lib.hid h3; clear h1 ht h3)
  all_goals go_wp2_with fail
  all_goals go_ret
  all_goals exact ⟨rfl, _, Pools.from ((Turn.refl _ w).drew.trans (Turn.of_only HO1.out) (fun k hk => .inl (.inl hk))) (HE.out _ (Turn.trans ((Turn.refl _ W).drew) HT.out (fun k hk => .inl hk)) _ H1.out (H3.out.imp id (fun ⟨g, a, b⟩ => ⟨g, a, by have := HS.out; simp at b; omega⟩)))⟩

set_option maxHeartbeats 2000000 in
theorem give_far {q bk bc z : Nat} {x : Int} (h : GiveAt w B m a b L S M q x bk bc z) (hqo : (S.blk x).owner ≠ q) (hc : M.tcode (S.blk x).pos (S.blk x).size false = 0) (hB : B ≤ w.heap.size) :
    Calls Try.prog 17 #[.pointer (some ⟨L.p, 0, none⟩), .int .i64 q, .int .i64 x] w
      (PoolPost w B m a b L S ((S.setTaken x false).setRow (S.far x) (S.row (S.far x) ++ [x])) (M.turn (S.blk x).pos (S.blk x).size false) (.int .i64 0)) := by
  have hpl := h.pool.ok.place x h.there
  have CS := Lib.hid (shard_in h.pool _ h.hq)
  have CB := Lib.hid (block_in h.pool h.bv x h.there)
  rw [← h.hz] at CB
  have hk : S.far x < 4 * S.W := by unfold PS.far; omega
  have hrl := h.pool.ok.short hk
  have hhome : S.far x = (S.blk x).owner * 4 + 3 := by unfold PS.far; omega
  obtain ⟨p0, -, b0, b1, -, -, b4, -, -⟩ := h.pool.cells hk h.there h.bv h.hz
  obtain ⟨ne1, ne2⟩ := h.pool.lies.bk_sh h.bv
  have CL := Lib.hid (fun (v : World) (hv : IsMem v m a b M) => free_any m a b M (S.blk x).pos (S.blk x).size v hv)
  rw [hc] at CL
  rw [h.taken] at b4
  have HP := Lib.hid h.pool; have HM := Lib.hid h.mem
  have KC := Lib.hid (fun (v : World) (hv : IsPool v B m L S) => hv.cells hk h.there h.bv h.hz)
  have hx' : (S.setTaken x false).there x := PS.setTaken_there.2 h.there
  have hb' : L.bv = .slice (some ⟨bk, 0, none⟩) (S.setTaken x false).blks.length bc := by rw [PS.setTaken_len]; exact h.bv
  have KL := Lib.hid (fun (v : World) (hv : IsPool v B m L S) => (show Lies (v.setCell ⟨bk, z * 5 + 4, none⟩ (.bool false)) B m L (S.setTaken x false) from by rw [h.hz]; exact hv.lies.setTaken h.bv h.there false))
  have CS2 := Lib.hid (fun (v : World) (hv : Lies v B m L (S.setTaken x false)) => shard_raw hv.cell9 (S.blk x).owner hpl.1)
  have KD := Lib.hid (fun (v u : World) (hv : Lies v B m L (S.setTaken x false)) (ht : Turn (fun g => (L.V (S.far x)).ownBlock = some g) v u) => hv.rowKeep hk ht hx' hb' h.hz)
  have CF := Lib.hid (fun (v : World) (hv : Lies v B m L (S.setTaken x false)) => show RowI v B (L.V (S.far x)) (S.row (S.far x)) from hv.rows _ hk)
  have hqb : (((S.blk x).owner : Int) == (q : Int)) = false := by simp; omega
  have KE := Lib.hid (fun (v u : World) (hv : IsPool v B m L S) (hu : IsMem v m a b (M.turn (S.blk x).pos (S.blk x).size false)) (ht : Turn (fun g => (L.V (S.far x)).ownBlock = some g) (v.setCell ⟨bk, z * 5 + 4, none⟩ (.bool false)) u) (v' : Value) (h1 : RowI u B v' (S.row (S.far x) ++ [x]))
    (h3 : v'.ownBlock = (L.V (S.far x)).ownBlock ∨ ∃ g, v'.ownBlock = some g ∧ v.heap.size ≤ g) => pools_give hv hu h.there h.taken (.inr rfl) h.bv h.hz (fun y => by simp [or_comm]) (fun hn => List.nodup_append.2 ⟨hv.ok.nodup _ hk, by simp, fun a ha b hb e => by simp at hb; subst hb; subst e; exact hn ha⟩) ht h1 h3)
  obtain ⟨va, vc, hV⟩ := rowLen (h.pool.rows _ hk)
  rw [hV] at KC KD CF KE
  rw [PS.setTaken_blk false h.there h.there.1, if_pos rfl] at KD
  rw [hhome] at KC KD CF KE hrl ⊢
  generalize M.turn (S.blk x).pos (S.blk x).size false = M' at *
  obtain ⟨l, hl⟩ : ∃ l, l = S.row ((S.blk x).owner * 4 + 3) := ⟨_, rfl⟩
  rw [← hl] at KC KD CF KE hrl ⊢
  generalize (S.setTaken x false).setRow ((S.blk x).owner * 4 + 3) (l ++ [x]) = S' at *
  obtain ⟨bx, hbx⟩ : ∃ bx, bx = S.blk x := ⟨_, rfl⟩
  obtain ⟨p, hp⟩ : ∃ p, p = L.p := ⟨_, rfl⟩
  obtain ⟨sh, hsh⟩ : ∃ sh, sh = L.sh := ⟨_, rfl⟩
  obtain ⟨n, hn⟩ : ∃ n, n = l.length := ⟨_, rfl⟩
  rw [← hbx] at b0 b1 CL KC KD KE CS2 hqb
  rw [← hp] at p0 CS CB KC KD CS2 ⊢
  rw [← hsh] at CS KC KD KE CS2 ne1 ne2
  rw [← hn] at hrl KC KD KE
  have HN := Lib.hid hn
  clear hn
  obtain ⟨bp, bs, bo, bcl, bt⟩ := bx
  simp only at b0 b1 CL
  simp only [] at KC KD KE CS2 hqb
  clear h hc hk hp hbx hpl hhome hb' hqo hx' hV hsh hl
  go_enter Try.func17, Try.ntmps17
  go_wp2_with fail
  refine CB.out.mono ?_
  rintro e w1 ⟨rfl, rfl⟩
  go_wp2_with fail
  refine CS.out.mono ?_
  rintro e w1 ⟨rfl, rfl⟩
  go_wp2_with fail
  go_region_held3 (fun w' => w'.cell? ⟨p, 0, none⟩ = some (.pointer (some ⟨m, 0, none⟩)) ∧ w'.cell? ⟨bk, z * 5, none⟩ = some (.int .i64 bp) ∧ w'.cell? ⟨bk, z * 5 + 1, none⟩ = some (.int .i64 bs)) (((repeat' apply And.intro) <;> assumption))
    (first | (go_at_call 40; refine (CL.out _ HM.out.drew).mono ?_; rintro e w1 ⟨rfl, hm, ho⟩; have HM1 := Lib.hid hm; have HO1 := Lib.hid ho; have HP1 := Lib.hid (HP.out.drew.onlyM HM.out.drew ho); clear hm ho p0 b0 b1 b4; obtain ⟨p0, c0, b0, b1, b2, b3, b4, fv, fb⟩ := KC.out _ HP1.out))
  have HL := Lib.hid (KL.out _ HP1.out)
  go_wp2_with fail
  refine (CS2.out _ HL.out).mono ?_
  rintro e w2 ⟨rfl, rfl⟩
  have HE := Lib.hid (fun u => KE.out w1 u HP1.out HM1.out)
  have hBw : B ≤ w1.heap.size := by have := HO1.out.size; simp at this; omega
  obtain ⟨W, hW⟩ : ∃ W, W = w1.setCell ⟨bk, z * 5 + 4, none⟩ (.bool false) := ⟨_, rfl⟩
  have hWs : W.heap.size = w1.heap.size := by rw [hW]; simp
  rw [← hW] at HL HE ⊢
  have HS := Lib.hid hWs
  clear p0 c0 b0 b1 b2 b3 b4 fv fb hW KE KC hWs
  obtain ⟨p0, c0, b0, b1, b2, b3, b4, fv, fb⟩ := KD.out W W HL.out (Turn.refl _ _)
  clear p0 b0 b1 b3 b4 fb
  have HR := Lib.hid (CF.out _ HL.out)
  obtain ⟨i0, hi0, hz0, hz1, hz2⟩ := info_parts info_int10
  have hBW : B ≤ W.heap.size := by have := HS.out; omega
  go_wp2_with ((at_builtin; refine wpList_append_own_at _ rfl (.tmp 81) (.tmp 83) 74 rfl B 3 i0 (.int .i64 0) 1 8 Try.underlying74 hi0 hz0 hz1 hz2 rfl (by decide) (.slice va n vc) l.length (l.map (Value.int .i64)) rfl (by have := HR.out; rw [← HN.out] at this; exact this.alloc _) ⟨W.heap.size, 0, none⟩ 1 1 [.int .i64 x] rfl rfl ?c1 ?c2 ?c3 ?c4 ?c5 ?_))
  case c1 =>
    intro j u hj
    match j, hj with
    | 0, hj => simp at hj; subst hj; simp [Addr.add]
  case c2 => intro u hu; simp at hu; subst hu; rfl
  case c3 => have := HN.out; unfold maxLen; omega
  case c4 => have := HN.out; omega
  case c5 => simp; omega
  intro v' w3 hown hgrow _ hat
  have h1 : RowI w3 B v' (l ++ [x]) := by
    unfold RowI
    rw [List.map_append, List.length_append]
    exact hown
  obtain ⟨ua, uc, hv⟩ := rowLen h1
  rw [List.length_append, List.length_singleton] at hv
  subst hv
  have ht : Turn (fun g => (Value.slice va n vc).ownBlock = some g) W w3 := Turn.trans ((Turn.refl _ W).alloc _) (Turn.of_grown hgrow) (fun k hk => .inl hk.symm)
  obtain ⟨-, c0', -, -, -, -, -, fv', -⟩ := KD.out _ _ HL.out ht
  have H1 := Lib.hid h1; have HT := Lib.hid ht; have HAT := Lib.hid hat
  clear h1 ht hat hown hgrow c0 fv b2
  go_wp2_with fail
  go_ret
  exact ⟨rfl, _, Pools.from ((Turn.refl _ w).drew.trans (Turn.of_only HO1.out) (fun k hk => .inl (.inl hk))) (HE.out _ HT.out _ H1.out (HAT.out.imp id (fun h => ⟨W.heap.size + 1, h, by have := HS.out; omega⟩)))⟩
end

end Go.Proofs.Ytccadafajocbgaa
