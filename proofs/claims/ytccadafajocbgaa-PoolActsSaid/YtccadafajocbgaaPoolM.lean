/- Layer 10: New of a pool that may be: the walk. -/
import Derived.Test.YtccadafajocbgaaPoolL
open Go Go.RowKit
set_option linter.unusedSimpArgs false
namespace Go.Proofs.Ytccadafajocbgaa

theorem info_shard : (Try.prog.info? 77).map (fun i => (i.zero, i.size, i.bytes)) = some (some (.agg #[.slice none 0 0, .slice none 0 0, .slice none 0 0, .slice none 0 0]), 4, 96) := by kernel_rfl
theorem info_block : (Try.prog.info? 73).map (fun i => (i.zero, i.size, i.bytes)) = some (some (.agg #[.int .i64 0, .int .i64 0, .int .i64 0, .int .i64 0, .bool false]), 5, 40) := by kernel_rfl

theorem made_four (v : Value) (n : Nat) : madeCells #[v, v, v, v] n = (List.replicate n v).toArray := by
  unfold madeCells
  apply Array.ext
  · simp
  · intro i h1 h2
    have : i % 4 = 0 ∨ i % 4 = 1 ∨ i % 4 = 2 ∨ i % 4 = 3 := by omega
    rcases this with h | h | h | h <;> simp [h]

theorem make_shard (n : Nat) (hn : n ≤ 64) (w : World) : (Instr.makeSlice 68 (.int .i64 n) (.int .i64 n)).run Try.prog w = .ok (.slice (some ⟨w.heap.size, 0, none⟩) n n) (w.alloc (.cells (List.replicate (4 * n) (Value.slice none 0 0)).toArray 77)) := by
  obtain ⟨i0, hi, hz0, hz1, hz2⟩ := info_parts info_shard
  have h := run_make (P := Try.prog) w 68 77 i0 (.agg #[.slice none 0 0, .slice none 0 0, .slice none 0 0, .slice none 0 0]) Try.underlying68 hi hz0 .i64 .i64 n n (by omega) (by omega) (by rw [hz2]; omega) (by omega)
  simpa [Value.cells, hz1, made_four, Nat.mul_comm] using h

/-- where the next block begins -/
def Shp.pos (s : Shp) (base c v i : Nat) : Nat := base + s.ws c + (v * s.n c + i) * s.z c

theorem boxed_z {s : Shp} {w : World} {bx : Nat} (h : boxed s w bx) {c : Nat} (hc : c < 3) : w.cell? ⟨bx, 1 + c, none⟩ = some (.int .i64 (s.z c)) := by
  rw [Blk.cell h]
  rcases (show c = 0 ∨ c = 1 ∨ c = 2 by omega) with rfl | rfl | rfl <;> rfl
theorem boxed_n {s : Shp} {w : World} {bx : Nat} (h : boxed s w bx) {c : Nat} (hc : c < 3) : w.cell? ⟨bx, 4 + c, none⟩ = some (.int .i64 (s.n c)) := by
  rw [Blk.cell h]
  rcases (show c = 0 ∨ c = 1 ∨ c = 2 by omega) with rfl | rfl | rfl <;> rfl
theorem Shp.pos_le {s : Shp} {base c v i : Nat} (hb : base + s.ws 3 ≤ 65536) (hc : c < 3) (hv : v < s.W) (hi : i < s.n c) : s.pos base c v i + s.z c ≤ 65536 := by
  have h1 : (v * s.n c + i + 1) * s.z c ≤ s.W * s.n c * s.z c := Nat.mul_le_mul_right _ (by
    have h2 : (v + 1) * s.n c ≤ s.W * s.n c := Nat.mul_le_mul_right _ hv
    rw [Nat.succ_mul] at h2; omega)
  have h2 := s.ws_mono (show c + 1 ≤ 3 by omega)
  rw [Shp.ws] at h2
  rw [Nat.succ_mul] at h1
  unfold Shp.pos
  omega

theorem cell_oth {w : World} {a b : Nat} {i j : Nat} {x u : Value} (h : a ≠ b) (hc : w.cell? ⟨a, i, none⟩ = some x) : (w.setCell ⟨b, j, none⟩ u).cell? ⟨a, i, none⟩ = some x :=
  (World.cell?_of_block (Below.heap_setCell _ _ _ _ h)).trans hc
theorem Shp.pos0 (s : Shp) (base c : Nat) : s.pos base c 0 0 = base + s.ws c := by simp [Shp.pos]
theorem Shp.posN (s : Shp) (base c v : Nat) : s.pos base c v (s.n c) = s.pos base c (v + 1) 0 := by simp [Shp.pos, Nat.succ_mul]
theorem Shp.posW (s : Shp) (base c : Nat) : s.pos base c s.W 0 = base + s.ws (c + 1) := by simp [Shp.pos, Shp.ws, Nat.add_assoc]
theorem Shp.posI (s : Shp) (base c v i : Nat) : s.pos base c v (i + 1) = s.pos base c v i + s.z c := by
  unfold Shp.pos; rw [← Nat.add_assoc, Nat.succ_mul, ← Nat.add_assoc]
theorem Shp.beg0 (s : Shp) (c : Nat) : s.beg 0 c = s.off c := by simp [Shp.beg]
theorem Shp.begN (s : Shp) (c v : Nat) : s.beg v c + s.n c = s.beg (v + 1) c := by simp [Shp.beg, Nat.succ_mul, Nat.add_assoc]
theorem Shp.begW (s : Shp) (c : Nat) : s.beg s.W c = s.off (c + 1) := by simp [Shp.beg, Shp.off]

section
variable {w w1 w' wr : World} {B m a b : Nat} {L : PLay} {S : PS} {M : MemS}

set_option maxRecDepth 100000 in
set_option maxHeartbeats 4000000 in
theorem new_good {m a b : Nat} {M : MemS} (base : Nat) (s : Shp) (h : s.Right) (hl : s.ws 3 ≤ 65536) (w : World) (hM : IsMem w m a b M) (hb : base + s.ws 3 ≤ M.words.length) (B : Nat) (hB : B ≤ w.heap.size) :
    Calls Try.prog 12 #[.pointer (some ⟨m, 0, none⟩), .int .i64 base, s.val] w fun e w' => ∃ L, e = .returned (.tuple #[.pointer (some ⟨L.p, 0, none⟩), .int .i64 0]) ∧ IsPool w' B m L (s.at_ base (s.off 3)) ∧ Turn (fun _ => False) w w' ∧ ∀ g, L.own s.W g → w.heap.size ≤ g := by
  have CR := Lib.hid (fun w => right_any s.W (s.z 0) (s.z 1) (s.z 2) (s.n 0) (s.n 1) (s.n 2) w)
  rw [Shp.okU h] at CR
  have CW := Lib.hid (fun w => words_shape s h w)
  have CM := Lib.hid (fun v (ht : Turn (fun _ => False) w v) => words_any m a b M v (hM.turn ht (fun h => h) (fun h => h) (fun h => h)))
  have hroom := hM.room
  have hW2 := h.W2; have hW1 := h.W1
  have HRi := Lib.hid h
  unfold Shp.val at CW
  unfold Shp.val
  unfold shpV at CR CW ⊢
  obtain ⟨ws, hws⟩ : ∃ ws, ws = s.ws 3 := ⟨_, rfl⟩
  rw [← hws] at CW hl hb
  have HWS := Lib.hid hws; clear hws
  generalize hmw : M.words.length = mw at *
  clear hmw
  have hl2 : ¬ 65536 < ws := by omega
  clear h hM
  have hb0 := Lib.hid (Blk.new w [.int .i64 s.W, .int .i64 (s.z 0), .int .i64 (s.z 1), .int .i64 (s.z 2), .int .i64 (s.n 0), .int .i64 (s.n 1), .int .i64 (s.n 2)] 36)
  have HT0 := Lib.hid ((Turn.refl (fun _ => False) w).alloc (.cells #[.int .i64 s.W, .int .i64 (s.z 0), .int .i64 (s.z 1), .int .i64 (s.z 2), .int .i64 (s.n 0), .int .i64 (s.n 1), .int .i64 (s.n 2)] 36))
  have hd : decide ((base : Int) < 0) = false := decide_eq_false (by omega)
  have hw1 : IntKind.i64.wrap ((mw : Int) - (ws : Int)) = (mw : Int) - ws := IntWalk.i64_in _ (by omega)
  have hd2 : decide ((mw : Int) - (ws : Int) < base) = false := decide_eq_false (by omega)
  have mk := fun w => make_shard s.W hW2 w
  have MK := Lib.hid mk; clear mk
  obtain ⟨bx, hbx⟩ : ∃ bx, bx = w.heap.size := ⟨_, rfl⟩
  have HX := Lib.hid hbx
  go_enter Try.func12, Try.ntmps12
  go_wp2_with fail
  rw [← hbx] at hb0 ⊢
  clear hbx
  refine (CR.out _).mono ?_
  rintro e w1 ⟨rfl, ht⟩
  have hb1 := Lib.hid (hb0.out.turn ht (fun h => h)); have HT1 := Lib.hid (HT0.out.trans ht (fun _ h => .inl h))
  obtain ⟨c0, c1, c2, c3, c4, c5, c6⟩ := shp_cells hb1.out
  clear ht
  go_wp2_with fail
  refine (CW.out _).mono ?_
  rintro e w2 ⟨rfl, ht⟩
  have hb2 := Lib.hid (hb1.out.turn ht (fun h => h)); have HT2 := Lib.hid (HT1.out.trans ht (fun _ h => .inl h))
  clear ht c0 c1 c2 c3 c4 c5 c6
  obtain ⟨c0, c1, c2, c3, c4, c5, c6⟩ := shp_cells hb2.out
  go_wp2_with fail
  go_region_held3 (fun w' => w'.cell? ⟨bx, 0, none⟩ = some (.int .i64 s.W) ∧ w'.cell? ⟨bx, 1, none⟩ = some (.int .i64 (s.z 0)) ∧ w'.cell? ⟨bx, 2, none⟩ = some (.int .i64 (s.z 1)) ∧ w'.cell? ⟨bx, 3, none⟩ = some (.int .i64 (s.z 2)) ∧ w'.cell? ⟨bx, 4, none⟩ = some (.int .i64 (s.n 0)) ∧ w'.cell? ⟨bx, 5, none⟩ = some (.int .i64 (s.n 1)) ∧ w'.cell? ⟨bx, 6, none⟩ = some (.int .i64 (s.n 2))) (((repeat' apply And.intro) <;> assumption))
    (first
      | (go_at_call 35; refine (CM.out _ (by first | exact HT3.out | exact HT2.out.drew)).mono ?_; rintro e wx ⟨rfl, rfl⟩)
      | (go_at_call 34; refine (CW.out _).mono ?_; rintro e w3 ⟨rfl, ht⟩; have HT3 := Lib.hid (HT2.out.drew.trans ht (fun _ h => .inl h)); have hb3 := Lib.hid (hb2.out.turn (Turn.trans ((Turn.refl (fun _ => False) _).drew) ht (fun _ h => .inl h)) (fun h => h)); clear ht c0 c1 c2 c3 c4 c5 c6; obtain ⟨c0, c1, c2, c3, c4, c5, c6⟩ := shp_cells hb3.out))
  all_goals go_wp2_with fail
  have mk := MK.out
  have hlt := hb3.out.lt
  go_region
  clear mk
  go_wp2_with fail
  have hNI : ∃ wL L, wL = ((w3.alloc (Obj.cells (Array.replicate (4 * s.W) (Value.slice none 0 0)) 77)).alloc (Obj.cells #[.pointer (some ⟨m, 0, none⟩), .int .i64 s.W, .int .i64 (s.z 0), .int .i64 (s.z 1), .int .i64 (s.z 2), .int .i64 (s.n 0), .int .i64 (s.n 1), .int .i64 (s.n 2), .slice none 0 0, .slice (some ⟨w3.heap.size, 0, none⟩) s.W s.W] 71)).drew ∧
      NewI w B m s base (w3.heap.size + 1) w3.heap.size bx (s.rowAt 0) 0 L wL := by
    refine ⟨_, ⟨w3.heap.size + 1, [.int .i64 s.W, .int .i64 (s.z 0), .int .i64 (s.z 1), .int .i64 (s.z 2), .int .i64 (s.n 0), .int .i64 (s.n 1), .int .i64 (s.n 2)], .slice none 0 0, w3.heap.size, fun _ => .slice none 0 0⟩, rfl, ?_⟩
    have hsz := HT3.out.size
    have hrow : s.rowAt 0 = fun _ => [] := by have := s.at_zero base; unfold Shp.at_ at this; injection this
    refine ⟨⟨?_, rfl, World.ownsRow_nil _ _ _ _, ?_, fun k hk => by rw [hrow]; exact World.ownsRow_nil _ _ _ _, fun j k hj hk hjk g hg => by simp [Value.ownBlock] at hg, by show B ≤ w3.heap.size + 1; omega, by show B ≤ w3.heap.size; omega⟩, rfl, rfl, ?_, ?_, ?_, ?_⟩
    · have := Blk.new (w3.alloc (Obj.cells (Array.replicate (4 * s.W) (Value.slice none 0 0)) 77)) [.pointer (some ⟨m, 0, none⟩), .int .i64 s.W, .int .i64 (s.z 0), .int .i64 (s.z 1), .int .i64 (s.z 2), .int .i64 (s.n 0), .int .i64 (s.n 1), .int .i64 (s.n 2), .slice none 0 0, .slice (some ⟨w3.heap.size, 0, none⟩) s.W s.W] 71
      simpa [PLay.cells] using this.drew
    · have := (Blk.new w3 (List.replicate (4 * s.W) (Value.slice none 0 0)) 77).alloc (Obj.cells #[.pointer (some ⟨m, 0, none⟩), .int .i64 s.W, .int .i64 (s.z 0), .int .i64 (s.z 1), .int .i64 (s.z 2), .int .i64 (s.n 0), .int .i64 (s.n 1), .int .i64 (s.n 2), .slice none 0 0, .slice (some ⟨w3.heap.size, 0, none⟩) s.W s.W] 71)
      have e : (List.range (4 * s.W)).map (fun _ => Value.slice none 0 0) = List.replicate (4 * s.W) (Value.slice none 0 0) := by
        apply List.ext_getElem?
        intro i
        by_cases hi : i < 4 * s.W
        · simp [hi]
        · rw [List.getElem?_eq_none (by simp; omega), List.getElem?_eq_none (by simp; omega)]
      show Blk _ _ ((List.range (4 * s.W)).map (fun _ => Value.slice none 0 0)) _
      rw [e]
      simpa using this.drew
    · exact ((hb3.out.alloc _).alloc _).drew
    · exact ((HT3.out.alloc _).alloc _).drew
    · intro g hg
      rcases hg with hg | hg | hg | ⟨j, hj, hg⟩
      · rw [hg]; show w.heap.size ≤ w3.heap.size + 1; omega
      · rw [hg]; exact hsz
      · simp [Value.ownBlock] at hg
      · simp [Value.ownBlock] at hg
    · rw [HX.out]; exact Nat.le_refl _
  obtain ⟨wL, L0, hwL, hN0⟩ := hNI
  have HL := Lib.hid hwL
  rw [← hwL]
  obtain ⟨p, hp⟩ : ∃ p, p = w3.heap.size + 1 := ⟨_, rfl⟩
  obtain ⟨sh, hsh⟩ : ∃ sh, sh = w3.heap.size := ⟨_, rfl⟩
  rw [← hp, ← hsh] at hN0 ⊢
  have H0 := Lib.hid hN0
  clear hN0 hwL hp hsh hlt c0 c1 c2 c3 c4 c5 c6
  go_loopw [1, 42] (fun t1 t42 wr => ∃ c L, c ≤ 3 ∧ t42 = .int .i64 (c : Nat) ∧ t1 = .int .i64 ((base + s.ws c : Nat) : Int) ∧ NewI w B m s base p sh bx (s.rowAt (s.off c)) (s.off c) L wr) (fun _ t _ => 3 - (intOf t).toNat)
  case atStart => exact ⟨0, L0, by omega, rfl, by simp [Shp.ws], H0.out⟩
  case round =>
    obtain ⟨c, L, hc, rfl, rfl, hN⟩ := hrel
    have HC := Lib.hid hN
    have c0 := hN.box.cell 0
    clear hN H0
    by_cases hlt : c < 3
    · simp at c0
      go_wp2_with fail
      clear c0
      obtain ⟨wo, rfl⟩ : ∃ x, x = wr := ⟨_, rfl⟩
      try rw [show decide ((c : Int) < 3) = true from decide_eq_true (by omega)]
      go_loopw [1, 47] (fun t1 t47 wr => ∃ v L, v ≤ s.W ∧ t47 = .int .i64 (v : Nat) ∧ t1 = .int .i64 (s.pos base c v 0 : Nat) ∧ NewI w B m s base p sh bx (s.rowAt (s.beg v c)) (s.beg v c) L wr) (fun _ t _ => s.W - (intOf t).toNat)
      case atStart => exact ⟨0, L, by omega, rfl, by rw [Shp.pos0], by rw [Shp.beg0]; exact HC.out⟩
      case round =>
        obtain ⟨v, L2, hv, rfl, rfl, hN⟩ := hrel
        have HV := Lib.hid hN
        have cn := boxed_n hN.box hlt
        clear hN HC
        by_cases hv2 : v < s.W
        · have i0 : (0 : Int) ≤ (c : Int) := by omega
          have i1 : (c : Int) < 3 := by omega
          go_wp2_with fail
          clear cn
          obtain ⟨wo2, rfl⟩ : ∃ x, x = wr := ⟨_, rfl⟩
          try rw [show decide ((v : Int) < (s.W : Int)) = true from decide_eq_true (by omega)]
          go_loopw [1, 54] (fun t1 t54 wr => ∃ i L, i ≤ s.n c ∧ t54 = .int .i64 (i : Nat) ∧ t1 = .int .i64 (s.pos base c v i : Nat) ∧ NewI w B m s base p sh bx (s.rowAt (s.beg v c + i)) (s.beg v c + i) L wr) (fun _ t _ => s.n c - (intOf t).toNat)
          case atStart => exact ⟨0, L2, by omega, rfl, rfl, HV.out⟩
          case round =>
            obtain ⟨i, L3, hi, rfl, rfl, hN⟩ := hrel
            have HI := Lib.hid hN
            clear hN HV
            have hnb : s.n c ≤ 1000 := HRi.out.n1 c hlt
            by_cases hi2 : i < s.n c
            · have cz := boxed_z HI.out.box hlt
              have hp8 := (HI.out.lies.top.cell 8).trans (L3.top_bv m _ HI.out.lies.sc)
              have f8 := HI.out.lies.top.free 8
              rw [HI.out.p] at hp8 f8
              have hcn : s.pos base c v i + s.z c ≤ 65536 := Shp.pos_le (by rw [← HWS.out]; omega) hlt hv2 hi2
              have i0 : (0 : Int) ≤ (c : Int) := by omega
              have i1 : (c : Int) < 3 := by omega
              obtain ⟨N, hN⟩ : ∃ N, N = s.beg v c + i := ⟨_, rfl⟩
              obtain ⟨bv, hbv⟩ : ∃ bv, bv = L3.bv := ⟨_, rfl⟩
              obtain ⟨ps, hps⟩ : ∃ ps, ps = s.pos base c v i := ⟨_, rfl⟩
              obtain ⟨zc, hzc⟩ : ∃ zc, zc = s.z c := ⟨_, rfl⟩
              have hN2 : N ≤ 192000 := by
                have h1 := s.beg_in (w := v) (c := c) hv2
                have h2 := s.off_mono (show c + 1 ≤ 3 by omega)
                have h3 := Shp.off_le HRi.out
                omega
              have KZ := Lib.hid (fun (o : Obj) (w1 : World) (hg : ((wr.alloc o).drew).grownBy w1 bv.ownBlock) => show w1.cell? ⟨bx, 1 + c, none⟩ = some (.int .i64 zc) from by
                have ht : Turn (fun g => L3.bv.ownBlock = some g) wr w1 := Turn.trans (((Turn.refl _ wr).alloc o).drew) (Turn.of_grown hg) (fun k hk => .inl (by rw [← hbv]; exact hk.symm))
                have hne : ¬ L3.bv.ownBlock = some bx := own_ne_type HI.out.lies.blocks HI.out.box (by decide)
                rw [ht.cell (a := ⟨bx, 1 + c, none⟩) HI.out.box.lt hne, hzc]
                exact cz)
              have HB := Lib.hid (fun (o : Obj) => show ((wr.alloc o).drew).ownsRow B 73 5 bv N (((List.range N).map (s.place base)).flatMap PB.cells) from by
                have := own_turn (HI.out.lies.blocks.alloc o) ((Turn.refl (fun _ => False) _).drew) (fun _ _ h => h)
                rw [hbv, hN]
                simpa only [List.length_map, List.length_range] using this)
              have KP := Lib.hid (fun (o : Obj) (w1 : World) (hg : ((wr.alloc o).drew).grownBy w1 bv.ownBlock) => show w1.cell? ⟨p, 8, none⟩ = some bv ∧ w1.frozen? ⟨p, 8, none⟩ = false from by
                have ht : Turn (fun g => L3.bv.ownBlock = some g) wr w1 := Turn.trans (((Turn.refl _ wr).alloc o).drew) (Turn.of_grown hg) (fun k hk => .inl (by rw [← hbv]; exact hk.symm))
                have hne : ¬ L3.bv.ownBlock = some p := by rw [← HI.out.p]; exact own_ne_type HI.out.lies.blocks HI.out.lies.top (by decide)
                have hpl : p < wr.heap.size := by rw [← HI.out.p]; exact HI.out.lies.top.lt
                rw [ht.cell (a := ⟨p, 8, none⟩) hpl hne, ht.frozen (a := ⟨p, 8, none⟩) hpl hne, hbv]
                exact ⟨hp8, f8⟩)
              rw [← hbv] at hp8
              rw [← hps] at hcn ⊢
              rw [← hzc] at cz hcn
              have hBw : B ≤ wr.heap.size := by have := HI.out.turn.size; omega
              have hlt1 := HI.out.box.lt
              have hlt2 := World.block_lt_of_cell? _ _ hp8
              have HN := Lib.hid hN; have HBV := Lib.hid hbv; have HPS := Lib.hid hps; have HZC := Lib.hid hzc
              clear hN hbv hps hzc
              obtain ⟨i0', hi0, hz0, hz1, hz2⟩ := info_parts info_block
              have HI0 := Lib.hid hi0; have HZ0 := Lib.hid hz0; have HZ1 := Lib.hid hz1; have HZ2 := Lib.hid hz2
              clear hi0 hz0 hz1 hz2
              go_wp2_with fail
              refine wpL_begin (by kernel_rfl) [17] (fun w' => w'.cell? ⟨p, 8, none⟩ = some bv ∧ w'.cell? ⟨bx, 1 + c, none⟩ = some (.int .i64 zc)) ?_
              have HS0 : wr.drew.cell? ⟨p, 8, none⟩ = some bv ∧ wr.drew.cell? ⟨bx, 1 + c, none⟩ = some (.int .i64 zc) := ⟨hp8, cz⟩
              refine wpL_pure (i := 0) (v := ?_) rfl (by kernel_rfl) (by kernel_rfl) (by kernel_rfl) (fun _ _ _ h => h) (Or.inl ⟨by rfl, ?_⟩) ?_
              rotate_left
              · intro w' hSw
                (try dsimp only at hSw)
                go_simp
                (try with_reducible rfl)
              (try simp only [Act.put, List.setIfInBounds_toArray, List.set_cons_zero, List.set_cons_succ])
              refine wpL_pure (i := 1) (v := ?_) rfl (by kernel_rfl) (by kernel_rfl) (by kernel_rfl) (fun _ _ _ h => h) (Or.inl ⟨by rfl, ?_⟩) ?_
              rotate_left
              · intro w' hSw
                (try dsimp only at hSw)
                go_simp
                (try with_reducible rfl)
              (try simp only [Act.put, List.setIfInBounds_toArray, List.set_cons_zero, List.set_cons_succ])
              refine wpL_pure (i := 2) (v := ?_) rfl (by kernel_rfl) (by kernel_rfl) (by kernel_rfl) (fun _ _ _ h => h) (Or.inl ⟨by rfl, ?_⟩) ?_
              rotate_left
              · intro w' hSw
                (try dsimp only at hSw)
                go_simp
                (try with_reducible rfl)
              (try simp only [Act.put, List.setIfInBounds_toArray, List.set_cons_zero, List.set_cons_succ])
              refine wpL_pure (i := 3) (v := ?_) rfl (by kernel_rfl) (by kernel_rfl) (by kernel_rfl) (fun _ _ _ h => h) (Or.inl ⟨by rfl, ?_⟩) ?_
              rotate_left
              · intro w' hSw
                (try dsimp only at hSw)
                go_simp
                (try with_reducible rfl)
              (try simp only [Act.put, List.setIfInBounds_toArray, List.set_cons_zero, List.set_cons_succ])
              refine wpL_take (i := 4) (v := ?_) rfl (by kernel_rfl) (by kernel_rfl) (by kernel_rfl) (by kernel_rfl) (fun _ _ _ h => h) (Or.inl ⟨by rfl, ?_⟩) (by assumption) ?_
              rotate_left
              · intro w' hSw
                (try dsimp only at hSw)
                go_simp
                (try with_reducible rfl)
              (try simp only [Act.put, List.setIfInBounds_toArray, List.set_cons_zero, List.set_cons_succ])
              refine wpL_pure (i := 5) (v := ?_) rfl (by kernel_rfl) (by kernel_rfl) (by kernel_rfl) (fun _ _ _ h => h) (Or.inl ⟨by rfl, ?_⟩) ?_
              rotate_left
              · intro w' hSw
                (try dsimp only at hSw)
                go_simp
                (try with_reducible rfl)
              (try simp only [Act.put, List.setIfInBounds_toArray, List.set_cons_zero, List.set_cons_succ])
              refine wpL_pure (i := 6) (v := ?_) rfl (by kernel_rfl) (by kernel_rfl) (by kernel_rfl) (fun _ _ _ h => h) (Or.inl ⟨by rfl, ?_⟩) ?_
              rotate_left
              · intro w' hSw
                (try dsimp only at hSw)
                go_simp
                (try with_reducible rfl)
              (try simp only [Act.put, List.setIfInBounds_toArray, List.set_cons_zero, List.set_cons_succ])
              refine wpL_pure (i := 7) (v := ?_) rfl (by kernel_rfl) (by kernel_rfl) (by kernel_rfl) (fun _ _ _ h => h) (Or.inl ⟨by rfl, ?_⟩) ?_
              rotate_left
              · intro w' hSw
                (try dsimp only at hSw)
                go_simp
                (try with_reducible rfl)
              (try simp only [Act.put, List.setIfInBounds_toArray, List.set_cons_zero, List.set_cons_succ])
              refine wpL_pure (i := 8) (v := ?_) rfl (by kernel_rfl) (by kernel_rfl) (by kernel_rfl) (fun _ _ _ h => h) (Or.inl ⟨by rfl, ?_⟩) ?_
              rotate_left
              · intro w' hSw
                (try dsimp only at hSw)
                go_simp
                (try with_reducible rfl)
              (try simp only [Act.put, List.setIfInBounds_toArray, List.set_cons_zero, List.set_cons_succ])
              refine wpL_take (i := 9) (v := ?_) rfl (by kernel_rfl) (by kernel_rfl) (by kernel_rfl) (by kernel_rfl) (fun _ _ _ h => h) (Or.inl ⟨by rfl, ?_⟩) (by assumption) ?_
              rotate_left
              · intro w' hSw
                (try dsimp only at hSw)
                go_simp
                (try with_reducible rfl)
              (try simp only [Act.put, List.setIfInBounds_toArray, List.set_cons_zero, List.set_cons_succ])
              refine wpL_pure (i := 10) (v := ?_) rfl (by kernel_rfl) (by kernel_rfl) (by kernel_rfl) (fun _ _ _ h => h) (Or.inl ⟨by rfl, ?_⟩) ?_
              rotate_left
              · intro w' hSw
                (try dsimp only at hSw)
                go_simp
                (try with_reducible rfl)
              (try simp only [Act.put, List.setIfInBounds_toArray, List.set_cons_zero, List.set_cons_succ])
              refine wpL_pure (i := 11) (v := ?_) rfl (by kernel_rfl) (by kernel_rfl) (by kernel_rfl) (fun _ _ _ h => h) (Or.inl ⟨by rfl, ?_⟩) ?_
              rotate_left
              · intro w' hSw
                (try dsimp only at hSw)
                go_simp
                (try with_reducible rfl)
              (try simp only [Act.put, List.setIfInBounds_toArray, List.set_cons_zero, List.set_cons_succ])
              refine wpL_pure (i := 12) (v := ?_) rfl (by kernel_rfl) (by kernel_rfl) (by kernel_rfl) (fun _ _ _ h => h) (Or.inl ⟨by rfl, ?_⟩) ?_
              rotate_left
              · intro w' hSw
                (try dsimp only at hSw)
                go_simp
                (try with_reducible rfl)
              (try simp only [Act.put, List.setIfInBounds_toArray, List.set_cons_zero, List.set_cons_succ])
              refine wpL_one (i := 13) (by kernel_rfl) rfl (fun K hK => ?_)
              go_simp
              refine hK _ _ (fun _ _ => ?_) ?_
              · (refine ⟨?_, ?_⟩ <;> go_keep)
              clear hK K
              (try simp only [Act.put, List.setIfInBounds_toArray, List.set_cons_zero, List.set_cons_succ])
              refine wpL_one (i := 14) (by kernel_rfl) rfl (fun K hK => ?_)
              refine step_append_lies _ (by rfl) (.tmp 60) (.tmp 69) 69 (by rfl) B 73 i0' _ 5 40 Try.underlying69 HI0.out HZ0.out HZ1.out HZ2.out rfl (by decide) bv N (((List.range N).map (s.place base)).flatMap PB.cells) (by rfl) (HB.out _) ⟨wr.heap.size, 0, none⟩ 1 1 [.int .i64 ps, .int .i64 zc, .int .i64 v, .int .i64 c, .bool false] (by rfl) rfl (World.news_of_block (heap_alloc_new wr _)) (by intro u hu; simp at hu; rcases hu with rfl | rfl | rfl | rfl | rfl <;> rfl) (by omega) (by unfold maxLen; omega) (by omega) (by simp; omega) (wr.heap.size + 1) (by simp) ?_
              intro g cap w1 hown hgrow hat hltg
              have hgrow0 := hgrow
              have HOWN := Lib.hid hown
              have HGR := Lib.hid hgrow
              have HAT := Lib.hid hat
              obtain ⟨d8, fd8⟩ := KP.out _ _ hgrow
              clear hown hgrow hat
              refine hK _ _ (fun _ _ => ⟨d8, KZ.out _ _ hgrow0⟩) ?_
              clear hK K
              (try simp only [Act.put, List.setIfInBounds_toArray, List.set_cons_zero, List.set_cons_succ])
              refine wpL_pure (i := 15) (v := ?_) rfl (by kernel_rfl) (by kernel_rfl) (by kernel_rfl) (fun _ _ _ h => h) (Or.inl ⟨by rfl, ?_⟩) ?_
              rotate_left
              · intro w' hSw
                (try dsimp only at hSw)
                go_simp
                (try with_reducible rfl)
              (try simp only [Act.put, List.setIfInBounds_toArray, List.set_cons_zero, List.set_cons_succ])
              refine wpL_pure (i := 16) (v := ?_) rfl (by kernel_rfl) (by kernel_rfl) (by kernel_rfl) (fun _ _ _ h => h) (Or.inl ⟨by rfl, ?_⟩) ?_
              rotate_left
              · intro w' hSw
                (try dsimp only at hSw)
                go_simp
                (try with_reducible rfl)
              (try simp only [Act.put, List.setIfInBounds_toArray, List.set_cons_zero, List.set_cons_succ])
              refine wpL_one (i := 17) (by kernel_rfl) rfl (fun K hK => ?_)
              go_simp
              refine hK _ _ (fun h _ => absurd (List.mem_singleton.2 rfl) h) ?_
              clear hK K
              refine wpL_done (by kernel_rfl) ?_ _
              (try simp only [Act.put, List.setIfInBounds_toArray, List.set_cons_zero, List.set_cons_succ])
              go_wp2_with fail
              have hpl : s.place base N = ⟨ps, zc, v, c, false⟩ := by rw [HN.out, Shp.place_at hv2 hlt hi2, HPS.out, HZC.out]; rfl
              have hT1 : Turn (fun g => L3.bv.ownBlock = some g) wr w1 := Turn.trans (((Turn.refl _ wr).alloc _).drew) (Turn.of_grown HGR.out) (fun k hk => .inl (by rw [← HBV.out]; exact hk.symm))
              have hN1 := NewI.addB (N := N) (by rw [HN.out]; exact HI.out) hpl HOWN.out hT1 (HAT.out.imp (fun h => by rw [← HBV.out]; exact h.symm) (fun h => ⟨g, rfl, by omega⟩))
              obtain ⟨u1, hu1⟩ : ∃ u1, u1 = w1.setCell ⟨p, 8, none⟩ (.slice (some ⟨g, 0, none⟩) (N + 1) cap) := ⟨_, rfl⟩
              rw [← hu1] at hN1 ⊢
              have H1 := Lib.hid hN1
              clear hu1 hT1 hpl hp8 f8 d8 fd8 cz HS0 hgrow0
              have cz := boxed_z hN1.box hlt
              rw [← HZC.out] at cz
              have e8 := (hN1.lies.top.cell 8).trans ((L3.setB (.slice (some ⟨g, 0, none⟩) (N + 1) cap)).top_bv m _ hN1.lies.sc)
              have e9 := (hN1.lies.top.cell 9).trans ((L3.setB (.slice (some ⟨g, 0, none⟩) (N + 1) cap)).top_sh m _ hN1.lies.sc)
              have hkk : v * 4 + c < 4 * s.W := by omega
              have eV : u1.cell? ⟨L3.sh, v * 4 + c, none⟩ = some (L3.V (v * 4 + c)) := by
                have := hN1.lies.shards.cell (v * 4 + c)
                rw [List.getElem?_map, List.getElem?_range hkk] at this
                exact this
              have fV : u1.frozen? ⟨L3.sh, v * 4 + c, none⟩ = false := hN1.lies.shards.free _
              have hsh3 : L3.sh = sh := hN1.sh
              have hpp3 : L3.p = p := hN1.p
              simp only [PLay.setB] at e8 e9
              rw [hpp3] at e8 e9
              rw [hsh3] at e9 eV fV
              obtain ⟨rv, hrv⟩ : ∃ rv, rv = L3.V (v * 4 + c) := ⟨_, rfl⟩
              rw [← hrv] at eV
              obtain ⟨rl, hrl⟩ : ∃ rl, rl = s.rowAt (s.beg v c + i) (v * 4 + c) := ⟨_, rfl⟩
              have hrlen : rl.length ≤ 1000 := by rw [hrl]; exact Shp.rowAt_len HRi.out _ _
              have HB2 := Lib.hid (fun (o : Obj) => show ((u1.alloc o).drew).ownsRow B 3 1 rv rl.length (rl.map (Value.int .i64)) from by
                rw [hrv, hrl]
                exact own_turn ((H1.out.lies.rows (v * 4 + c) hkk).alloc o) ((Turn.refl (fun _ => False) _).drew) (fun _ _ h => h))
              have KP2 := Lib.hid (fun (o : Obj) (w2 : World) (hg : ((u1.alloc o).drew).grownBy w2 rv.ownBlock) => show w2.cell? ⟨sh, v * 4 + c, none⟩ = some rv ∧ w2.frozen? ⟨sh, v * 4 + c, none⟩ = false ∧ w2.cell? ⟨p, 9, none⟩ = some (.slice (some ⟨sh, 0, none⟩) s.W s.W) ∧ w2.cell? ⟨p, 8, none⟩ = some (.slice (some ⟨g, 0, none⟩) (N + 1) cap) from by
                have ht : Turn (fun g => (L3.V (v * 4 + c)).ownBlock = some g) u1 w2 := Turn.trans (((Turn.refl _ u1).alloc o).drew) (Turn.of_grown hg) (fun k hk => .inl (by rw [← hrv]; exact hk.symm))
                have hne : ¬ (L3.V (v * 4 + c)).ownBlock = some sh := by rw [← hsh3]; exact own_ne_type (H1.out.lies.rows (v * 4 + c) hkk) H1.out.lies.shards (by decide)
                have hne2 : ¬ (L3.V (v * 4 + c)).ownBlock = some p := by rw [← hpp3]; exact own_ne_type (H1.out.lies.rows (v * 4 + c) hkk) H1.out.lies.top (by decide)
                have hpl : sh < u1.heap.size := by rw [← hsh3]; exact H1.out.lies.shards.lt
                have hpl2 : p < u1.heap.size := by rw [← hpp3]; exact H1.out.lies.top.lt
                rw [ht.cell (a := ⟨sh, v * 4 + c, none⟩) hpl hne, ht.frozen (a := ⟨sh, v * 4 + c, none⟩) hpl hne, ht.cell (a := ⟨p, 9, none⟩) hpl2 hne2, ht.cell (a := ⟨p, 8, none⟩) hpl2 hne2]
                exact ⟨eV, fV, e9, e8⟩)
              have hps2 : p ≠ sh := by rw [← hsh3, ← hpp3]; exact H1.out.lies.top.ne_type H1.out.lies.shards (by decide)
              have hlt3 := World.block_lt_of_cell? _ _ e9
              have hlt4 := World.block_lt_of_cell? _ _ eV
              have hlt5 := World.block_lt_of_cell? _ _ cz
              have hBu : B ≤ u1.heap.size := by have := H1.out.turn.size; omega
              have HRV := Lib.hid hrv; have HRL := Lib.hid hrl
              clear hsh3 hpp3 hN1 hrv hrl hkk KP HB
              obtain ⟨j0', hj0, hy0, hy1, hy2⟩ := info_parts info_int10
              have HJ0 := Lib.hid hj0; have HY0 := Lib.hid hy0; have HY1 := Lib.hid hy1; have HY2 := Lib.hid hy2
              clear hj0 hy0 hy1 hy2
              have v0 : (0 : Int) ≤ (v : Int) := by omega
              have v1 : (v : Int) < (s.W : Int) := by omega
              refine wpL_begin (by kernel_rfl) [26] (fun w' => w'.cell? ⟨p, 8, none⟩ = some (.slice (some ⟨g, 0, none⟩) (N + 1) cap) ∧ w'.cell? ⟨p, 9, none⟩ = some (.slice (some ⟨sh, 0, none⟩) s.W s.W) ∧ w'.cell? ⟨sh, v * 4 + c, none⟩ = some rv) ?_
              have HS1 : u1.drew.cell? ⟨p, 8, none⟩ = some (.slice (some ⟨g, 0, none⟩) (N + 1) cap) ∧ u1.drew.cell? ⟨p, 9, none⟩ = some (.slice (some ⟨sh, 0, none⟩) s.W s.W) ∧ u1.drew.cell? ⟨sh, v * 4 + c, none⟩ = some rv := ⟨e8, e9, eV⟩
              refine wpL_pure (i := 0) (v := ?_) rfl (by kernel_rfl) (by kernel_rfl) (by kernel_rfl) (fun _ _ _ h => h) (Or.inl ⟨by rfl, ?_⟩) ?_
              rotate_left
              · intro w' hSw
                (try dsimp only at hSw)
                go_simp
                (try with_reducible rfl)
              (try simp only [Act.put, List.setIfInBounds_toArray, List.set_cons_zero, List.set_cons_succ])
              refine wpL_pure (i := 1) (v := ?_) rfl (by kernel_rfl) (by kernel_rfl) (by kernel_rfl) (fun _ _ _ h => h) (Or.inl ⟨by rfl, ?_⟩) ?_
              rotate_left
              · intro w' hSw
                (try dsimp only at hSw)
                go_simp
                (try with_reducible rfl)
              (try simp only [Act.put, List.setIfInBounds_toArray, List.set_cons_zero, List.set_cons_succ])
              refine wpL_pure (i := 2) (v := ?_) rfl (by kernel_rfl) (by kernel_rfl) (by kernel_rfl) (fun _ _ _ h => h) (Or.inl ⟨by rfl, ?_⟩) ?_
              rotate_left
              · intro w' hSw
                (try dsimp only at hSw)
                go_simp
                (try with_reducible rfl)
              (try simp only [Act.put, List.setIfInBounds_toArray, List.set_cons_zero, List.set_cons_succ])
              refine wpL_take (i := 3) (v := ?_) rfl (by kernel_rfl) (by kernel_rfl) (by kernel_rfl) (by kernel_rfl) (fun _ _ _ h => h) (Or.inl ⟨by rfl, ?_⟩) (by assumption) ?_
              rotate_left
              · intro w' hSw
                (try dsimp only at hSw)
                go_simp
                (try with_reducible rfl)
              (try simp only [Act.put, List.setIfInBounds_toArray, List.set_cons_zero, List.set_cons_succ])
              refine wpL_pure (i := 4) (v := ?_) rfl (by kernel_rfl) (by kernel_rfl) (by kernel_rfl) (fun _ _ _ h => h) (Or.inl ⟨by rfl, ?_⟩) ?_
              rotate_left
              · intro w' hSw
                (try dsimp only at hSw)
                go_simp
                (try with_reducible rfl)
              (try simp only [Act.put, List.setIfInBounds_toArray, List.set_cons_zero, List.set_cons_succ])
              refine wpL_pure (i := 5) (v := ?_) rfl (by kernel_rfl) (by kernel_rfl) (by kernel_rfl) (fun _ _ _ h => h) (Or.inl ⟨by rfl, ?_⟩) ?_
              rotate_left
              · intro w' hSw
                (try dsimp only at hSw)
                go_simp
                (try with_reducible rfl)
              (try simp only [Act.put, List.setIfInBounds_toArray, List.set_cons_zero, List.set_cons_succ])
              refine wpL_pure (i := 6) (v := ?_) rfl (by kernel_rfl) (by kernel_rfl) (by kernel_rfl) (fun _ _ _ h => h) (Or.inl ⟨by rfl, ?_⟩) ?_
              rotate_left
              · intro w' hSw
                (try dsimp only at hSw)
                go_simp
                (try with_reducible rfl)
              (try simp only [Act.put, List.setIfInBounds_toArray, List.set_cons_zero, List.set_cons_succ])
              refine wpL_pure (i := 7) (v := ?_) rfl (by kernel_rfl) (by kernel_rfl) (by kernel_rfl) (fun _ _ _ h => h) (Or.inl ⟨by rfl, ?_⟩) ?_
              rotate_left
              · intro w' hSw
                (try dsimp only at hSw)
                go_simp
                (try with_reducible rfl)
              (try simp only [Act.put, List.setIfInBounds_toArray, List.set_cons_zero, List.set_cons_succ])
              refine wpL_pure (i := 8) (v := ?_) rfl (by kernel_rfl) (by kernel_rfl) (by kernel_rfl) (fun _ _ _ h => h) (Or.inl ⟨by rfl, ?_⟩) ?_
              rotate_left
              · intro w' hSw
                (try dsimp only at hSw)
                go_simp
                (try with_reducible rfl)
              (try simp only [Act.put, List.setIfInBounds_toArray, List.set_cons_zero, List.set_cons_succ])
              refine wpL_take (i := 9) (v := ?_) rfl (by kernel_rfl) (by kernel_rfl) (by kernel_rfl) (by kernel_rfl) (fun _ _ _ h => h) (Or.inl ⟨by rfl, ?_⟩) (by assumption) ?_
              rotate_left
              · intro w' hSw
                (try dsimp only at hSw)
                go_simp
                (try with_reducible rfl)
              (try simp only [Act.put, List.setIfInBounds_toArray, List.set_cons_zero, List.set_cons_succ])
              refine wpL_pure (i := 10) (v := ?_) rfl (by kernel_rfl) (by kernel_rfl) (by kernel_rfl) (fun _ _ _ h => h) (Or.inl ⟨by rfl, ?_⟩) ?_
              rotate_left
              · intro w' hSw
                (try dsimp only at hSw)
                go_simp
                (try with_reducible rfl)
              (try simp only [Act.put, List.setIfInBounds_toArray, List.set_cons_zero, List.set_cons_succ])
              refine wpL_pure (i := 11) (v := ?_) rfl (by kernel_rfl) (by kernel_rfl) (by kernel_rfl) (fun _ _ _ h => h) (Or.inl ⟨by rfl, ?_⟩) ?_
              rotate_left
              · intro w' hSw
                (try dsimp only at hSw)
                go_simp
                (try with_reducible rfl)
              (try simp only [Act.put, List.setIfInBounds_toArray, List.set_cons_zero, List.set_cons_succ])
              refine wpL_pure (i := 12) (v := ?_) rfl (by kernel_rfl) (by kernel_rfl) (by kernel_rfl) (fun _ _ _ h => h) (Or.inl ⟨by rfl, ?_⟩) ?_
              rotate_left
              · intro w' hSw
                (try dsimp only at hSw)
                go_simp
                (try with_reducible rfl)
              (try simp only [Act.put, List.setIfInBounds_toArray, List.set_cons_zero, List.set_cons_succ])
              refine wpL_pure (i := 13) (v := ?_) rfl (by kernel_rfl) (by kernel_rfl) (by kernel_rfl) (fun _ _ _ h => h) (Or.inl ⟨by rfl, ?_⟩) ?_
              rotate_left
              · intro w' hSw
                (try dsimp only at hSw)
                go_simp
                (try with_reducible rfl)
              (try simp only [Act.put, List.setIfInBounds_toArray, List.set_cons_zero, List.set_cons_succ])
              refine wpL_pure (i := 14) (v := ?_) rfl (by kernel_rfl) (by kernel_rfl) (by kernel_rfl) (fun _ _ _ h => h) (Or.inl ⟨by rfl, ?_⟩) ?_
              rotate_left
              · intro w' hSw
                (try dsimp only at hSw)
                go_simp
                (try with_reducible rfl)
              (try simp only [Act.put, List.setIfInBounds_toArray, List.set_cons_zero, List.set_cons_succ])
              refine wpL_take (i := 15) (v := ?_) rfl (by kernel_rfl) (by kernel_rfl) (by kernel_rfl) (by kernel_rfl) (fun _ _ _ h => h) (Or.inl ⟨by rfl, ?_⟩) (by assumption) ?_
              rotate_left
              · intro w' hSw
                (try dsimp only at hSw)
                go_simp
                (try with_reducible rfl)
              (try simp only [Act.put, List.setIfInBounds_toArray, List.set_cons_zero, List.set_cons_succ])
              refine wpL_pure (i := 16) (v := ?_) rfl (by kernel_rfl) (by kernel_rfl) (by kernel_rfl) (fun _ _ _ h => h) (Or.inl ⟨by rfl, ?_⟩) ?_
              rotate_left
              · intro w' hSw
                (try dsimp only at hSw)
                go_simp
                (try with_reducible rfl)
              (try simp only [Act.put, List.setIfInBounds_toArray, List.set_cons_zero, List.set_cons_succ])
              refine wpL_pure (i := 17) (v := ?_) rfl (by kernel_rfl) (by kernel_rfl) (by kernel_rfl) (fun _ _ _ h => h) (Or.inl ⟨by rfl, ?_⟩) ?_
              rotate_left
              · intro w' hSw
                (try dsimp only at hSw)
                go_simp
                (try with_reducible rfl)
              (try simp only [Act.put, List.setIfInBounds_toArray, List.set_cons_zero, List.set_cons_succ])
              refine wpL_pure (i := 18) (v := ?_) rfl (by kernel_rfl) (by kernel_rfl) (by kernel_rfl) (fun _ _ _ h => h) (Or.inl ⟨by rfl, ?_⟩) ?_
              rotate_left
              · intro w' hSw
                (try dsimp only at hSw)
                go_simp
                (try with_reducible rfl)
              (try simp only [Act.put, List.setIfInBounds_toArray, List.set_cons_zero, List.set_cons_succ])
              refine wpL_take (i := 19) (v := ?_) rfl (by kernel_rfl) (by kernel_rfl) (by kernel_rfl) (by kernel_rfl) (fun _ _ _ h => h) (Or.inl ⟨by rfl, ?_⟩) (by assumption) ?_
              rotate_left
              · intro w' hSw
                (try dsimp only at hSw)
                go_simp
                (try with_reducible rfl)
              (try simp only [Act.put, List.setIfInBounds_toArray, List.set_cons_zero, List.set_cons_succ])
              refine wpL_pure (i := 20) (v := ?_) rfl (by kernel_rfl) (by kernel_rfl) (by kernel_rfl) (fun _ _ _ h => h) (Or.inl ⟨by rfl, ?_⟩) ?_
              rotate_left
              · intro w' hSw
                (try dsimp only at hSw)
                go_simp
                (try with_reducible rfl)
              (try simp only [Act.put, List.setIfInBounds_toArray, List.set_cons_zero, List.set_cons_succ])
              refine wpL_pure (i := 23) (v := ?_) rfl (by kernel_rfl) (by kernel_rfl) (by kernel_rfl) (fun _ _ _ h => h) (Or.inl ⟨by rfl, ?_⟩) ?_
              rotate_left
              · intro w' hSw
                (try dsimp only at hSw)
                go_simp
                (try with_reducible rfl)
              (try simp only [Act.put, List.setIfInBounds_toArray, List.set_cons_zero, List.set_cons_succ])
              refine wpL_pure (i := 24) (v := ?_) rfl (by kernel_rfl) (by kernel_rfl) (by kernel_rfl) (fun _ _ _ h => h) (Or.inl ⟨by rfl, ?_⟩) ?_
              rotate_left
              · intro w' hSw
                (try dsimp only at hSw)
                go_simp
                (try with_reducible rfl)
              (try simp only [Act.put, List.setIfInBounds_toArray, List.set_cons_zero, List.set_cons_succ])
              refine wpL_one (i := 21) (by kernel_rfl) rfl (fun K hK => ?_)
              go_simp
              refine hK _ _ (fun _ _ => ?_) ?_
              · (refine ⟨?_, ?_, ?_⟩ <;> go_keep)
              clear hK K
              (try simp only [Act.put, List.setIfInBounds_toArray, List.set_cons_zero, List.set_cons_succ])
              refine wpL_one (i := 22) (by kernel_rfl) rfl (fun K hK => ?_)
              refine step_append_lies _ (by rfl) (.tmp 88) (.tmp 94) 74 (by rfl) B 3 j0' _ 1 8 Try.underlying74 HJ0.out HY0.out HY1.out HY2.out rfl (by decide) rv rl.length (rl.map (Value.int .i64)) (by rfl) (HB2.out _) ⟨u1.heap.size, 0, none⟩ 1 1 [.int .i64 ((N : Int) + 1)] (by rfl) rfl (World.news_of_block (heap_alloc_new u1 _)) (by intro u hu; simp at hu; subst hu; rfl) (by omega) (by unfold maxLen; omega) (by omega) (by simp; omega) (u1.heap.size + 1) (by simp) ?_
              intro g2 cap2 w2 hown hgrow hat hltg
              have HOWN2 := Lib.hid hown
              have HGR2 := Lib.hid hgrow
              have HAT2 := Lib.hid hat
              obtain ⟨dV, fdV, d9, d8⟩ := KP2.out _ _ hgrow
              clear hown hgrow hat
              refine hK _ _ (fun _ _ => ⟨d8, d9, dV⟩) ?_
              clear hK K HS1
              (try simp only [Act.put, List.setIfInBounds_toArray, List.set_cons_zero, List.set_cons_succ])
              refine wpL_pure (i := 25) (v := ?_) rfl (by kernel_rfl) (by kernel_rfl) (by kernel_rfl) (fun _ _ _ h => h) (Or.inl ⟨by rfl, ?_⟩) ?_
              rotate_left
              · intro w' hSw
                (try dsimp only at hSw)
                go_simp
                (try with_reducible rfl)
              (try simp only [Act.put, List.setIfInBounds_toArray, List.set_cons_zero, List.set_cons_succ])
              refine wpL_one (i := 26) (by kernel_rfl) rfl (fun K hK => ?_)
              go_simp
              refine hK _ _ (fun h _ => absurd (List.mem_singleton.2 rfl) h) ?_
              clear hK K
              refine wpL_done (by kernel_rfl) ?_ _
              (try simp only [Act.put, List.setIfInBounds_toArray, List.set_cons_zero, List.set_cons_succ])
              have hkk : v * 4 + c < 4 * s.W := by omega
              have hT2 : Turn (fun g => (L3.V (v * 4 + c)).ownBlock = some g) u1 w2 := Turn.trans (((Turn.refl _ u1).alloc _).drew) (Turn.of_grown HGR2.out) (fun k hk => .inl (by rw [← HRV.out]; exact hk.symm))
              have hR2 : RowI w2 B (.slice (some ⟨g2, 0, none⟩) (rl.length + 1) cap2) (rl ++ [(N : Int) + 1]) := by
                unfold RowI
                rw [List.map_append, List.length_append]
                exact HOWN2.out
              have hN2 := NewI.addR H1.out hkk hR2 hT2 (HAT2.out.imp (fun h => by show _ = (L3.V (v * 4 + c)).ownBlock; rw [← HRV.out]; exact h.symm) (fun h => ⟨g2, rfl, by omega⟩))
              obtain ⟨u2, hu2⟩ : ∃ u2, u2 = w2.setCell ⟨sh, v * 4 + c, none⟩ (.slice (some ⟨g2, 0, none⟩) (rl.length + 1) cap2) := ⟨_, rfl⟩
              rw [← hu2] at hN2 ⊢
              have HF := Lib.hid hN2
              clear hu2 hT2 hR2 cz e8 e9 eV fV dV fdV d9 d8 hlt3 hlt4 hlt5
              have cz := boxed_z HF.out.box hlt
              rw [← HZC.out] at cz
              clear hN2
              go_wp2_with fail
              go_roundw
              case rel =>
                refine ⟨i + 1, _, by omega, by go_num, ?_, NewI.congr (N := s.beg v c + (i + 1)) (by rw [← Nat.add_assoc, ← HN.out]; exact HF.out) (fun k hk => ?_)⟩
                · rw [Shp.posI, ← HPS.out, ← HZC.out]; go_num
                · rw [← Nat.add_assoc, Shp.row_step hv2 hlt hi2 hk, HRL.out, HN.out, show 4 * v + c = v * 4 + c by omega]
                  split
                  · rename_i e; rw [e]
                  · rfl
              case measure => simp [intOf]; omega
            · obtain rfl : i = s.n c := by omega
              go_wp2_with fail
              go_roundw
              case rel => exact ⟨v + 1, L3, by omega, by go_num, by rw [← Shp.posN], by rw [← Shp.begN]; exact HI.out⟩
              case measure => simp [intOf]; omega
        · obtain rfl : v = s.W := by omega
          go_wp2_with fail
          go_roundw
          case rel => exact ⟨c + 1, L2, by omega, by go_num, by rw [← Shp.posW], by rw [← Shp.begW]; exact HV.out⟩
          case measure => simp [intOf]; omega
    · obtain rfl : c = 3 := by omega
      go_wp2_with fail
      go_ret2
      have hN := HC.out
      refine ⟨L, by rw [hN.p]; rfl, ?_, hN.turn, hN.own⟩
      exact Lies.pool (S := s.at_ base (s.off 3)) hN.lies (Shp.made_ok HRi.out (by rw [← HWS.out]; omega))
end

end Go.Proofs.Ytccadafajocbgaa
