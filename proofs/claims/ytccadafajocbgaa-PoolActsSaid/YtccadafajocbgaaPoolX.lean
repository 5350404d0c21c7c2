/- Layer 10: the document's New. -/
import Derived.Test.YtccadafajocbgaaPoolW
import Derived.Deep.CutRange
open Go Go.RowKit
set_option linter.unusedSimpArgs false
namespace Go.Proofs.Ytccadafajocbgaa

theorem info_a3s : (Try.prog.info? 75).map (fun i => (i.zero, i.size, i.bytes)) = some (some (.agg #[.slice none 0 0, .slice none 0 0, .slice none 0 0]), 3, 72) := by kernel_rfl
theorem info_sInt : (Try.prog.info? 74).map (fun i => (i.zero, i.size, i.bytes)) = some (some (.slice none 0 0), 1, 24) := by kernel_rfl
theorem info_bool10 : (Try.prog.info? 4).map (fun i => (i.zero, i.size, i.bytes)) = some (some (.bool false), 1, 1) := by kernel_rfl
theorem made_three (v : Value) (n : Nat) : madeCells #[v, v, v] n = (List.replicate n v).toArray := by
  unfold madeCells
  apply Array.ext
  · simp
  · intro i h1 h2
    have : i % 3 = 0 ∨ i % 3 = 1 ∨ i % 3 = 2 := by omega
    rcases this with h | h | h <;> simp [h]
theorem make_a3s (n : Nat) (hn : n ≤ 64) (w : World) : (Instr.makeSlice 78 (.int .i64 n) (.int .i64 n)).run Try.prog w = .ok (.slice (some ⟨w.heap.size, 0, none⟩) n n) (w.alloc (.cells (List.replicate (3 * n) (Value.slice none 0 0)).toArray 75)) := by
  obtain ⟨i0, hi, hz0, hz1, hz2⟩ := info_parts info_a3s
  have h := run_make (P := Try.prog) w 78 75 i0 (.agg #[.slice none 0 0, .slice none 0 0, .slice none 0 0]) Try.underlying78 hi hz0 .i64 .i64 n n (by omega) (by omega) (by rw [hz2]; omega) (by omega)
  simpa [Value.cells, hz1, made_three, Nat.mul_comm] using h
theorem make_sInt (n : Nat) (hn : n ≤ 64) (w : World) : (Instr.makeSlice 79 (.int .i64 n) (.int .i64 n)).run Try.prog w = .ok (.slice (some ⟨w.heap.size, 0, none⟩) n n) (w.alloc (.cells (List.replicate n (Value.slice none 0 0)).toArray 74)) := by
  obtain ⟨i0, hi, hz0, hz1, hz2⟩ := info_parts info_sInt
  have h := run_make (P := Try.prog) w 79 74 i0 (.slice none 0 0) Try.underlying79 hi hz0 .i64 .i64 n n (by omega) (by omega) (by rw [hz2]; omega) (by omega)
  have e : madeCells #[Value.slice none 0 0] n = (List.replicate n (Value.slice none 0 0)).toArray := by
    unfold madeCells
    apply Array.ext
    · simp
    · intro i h1 h2; simp [Nat.mod_one]
  simpa [Value.cells, hz1, e] using h

theorem get_push {α : Type} (a : Array α) (x : α) {i : Nat} {y : α} (h : a[i]? = some y) : (a.push x)[i]? = some y := by
  have hi := (Array.getElem?_eq_some_iff.1 h).1
  rw [Array.getElem?_push, if_neg (by omega)]; exact h
theorem get_push_last {α : Type} (a : Array α) (x : α) {n : Nat} (h : a.size = n) : (a.push x)[n]? = some x := by
  rw [Array.getElem?_push, if_pos h.symm]
theorem four_allocs (w : World) (A B C D : Obj) :
    (((((w.alloc A).alloc B).alloc C).alloc D).drew).heap[w.heap.size]? = some A ∧ (((((w.alloc A).alloc B).alloc C).alloc D).drew).heap[w.heap.size + 1]? = some B ∧
    (((((w.alloc A).alloc B).alloc C).alloc D).drew).heap[w.heap.size + 1 + 1]? = some C ∧ (((((w.alloc A).alloc B).alloc C).alloc D).drew).heap[w.heap.size + 1 + 1 + 1]? = some D :=
  ⟨get_push _ _ (get_push _ _ (get_push _ _ (get_push_last _ _ rfl))), get_push _ _ (get_push _ _ (get_push_last _ _ (by simp))), get_push _ _ (get_push_last _ _ (by simp)), get_push_last _ _ (by simp)⟩
theorem blk_arr {w : World} {b : Nat} {a : Array Value} {c : List Value} {t : TypeId} (h : w.heap[b]? = some (.cells a t)) (e : a = c.toArray) : Blk w b c t := by subst e; exact h

/-- The document's pool while it is made: N blocks are there. -/
structure RNew (w : World) (B : Nat) (s : Shp) (r f q bx : Nat) (rows : Nat → List Int) (N : Nat) (L : RLay) (wr : World) : Prop where
  lies : RLies true wr B L s rows (List.replicate (N + 1) false)
  r : L.r = r
  f : L.f = f
  q : L.q = q
  box : Blk wr bx s.cells 26
  turn : Turn (fun _ => False) w wr
  own : ∀ g, L.own s.W g → w.heap.size ≤ g
  bx : w.heap.size ≤ bx

theorem rnew_made {w0 w1 wx : World} {B : Nat} {s : Shp} {r f q t bx : Nat} (hB : B ≤ w0.heap.size) (hX : Blk w1 bx s.cells 26) (hbx : w0.heap.size ≤ bx) (ht0 : Turn (fun _ => False) w0 w1) (ht : Turn (fun _ => False) w1 wx) (hr : w1.heap.size ≤ r ∧ w1.heap.size ≤ f ∧ w1.heap.size ≤ q ∧ w1.heap.size ≤ t)
    (h1 : Blk wx r (s.cells ++ [.slice (some ⟨f, 0, none⟩) s.W s.W, .slice (some ⟨q, 0, none⟩) s.W s.W, .slice (some ⟨t, 0, none⟩) 1 1]) 81) (h2 : Blk wx f (List.replicate (3 * s.W) (.slice none 0 0)) 75)
    (h3 : Blk wx q (List.replicate s.W (.slice none 0 0)) 74) (h4 : Blk wx t [.bool false] 4) :
    RNew w0 B s r f q bx (fun _ => []) 0 ⟨r, f, q, .slice (some ⟨t, 0, none⟩) 1 1, fun _ => .slice none 0 0⟩ wx := by
  have hs := ht0.size
  have rep : ∀ n, (List.range n).map (fun _ => Value.slice none 0 0) = List.replicate n (Value.slice none 0 0) := fun n => by
    apply List.ext_getElem?
    intro i
    by_cases hi : i < n
    · simp [hi]
    · rw [List.getElem?_eq_none (by simp; omega), List.getElem?_eq_none (by simp; omega)]
  refine ⟨⟨h1, ?_, ?_, ?_, fun k hk => RowK.of (World.ownsRow_nil _ _ _ _), fun j k hj hk hjk g hg => by simp [Value.ownBlock] at hg, ⟨by show B ≤ r; omega, by show B ≤ f; omega, by show B ≤ q; omega⟩⟩, rfl, rfl, rfl, hX.turn ht (fun h => h), ht0.trans ht (fun _ h => .inl h), fun g hg => ?_, hbx⟩
  · show Blk wx f ((List.range (3 * s.W)).map fun _ => Value.slice none 0 0) _
    rw [rep]; exact h2
  · show Blk wx q ((List.range s.W).map fun _ => Value.slice none 0 0) _
    rw [rep]; exact h3
  · refine ⟨rfl, .inr ⟨t, 1, #[.bool false], rfl, by omega, h4, by simp, by unfold maxLen; simp, by simp, rfl⟩⟩
  · rcases hg with e | e | e | hg | ⟨j, hj, hg⟩
    · rw [e]; show w0.heap.size ≤ r; omega
    · rw [e]; show w0.heap.size ≤ f; omega
    · rw [e]; show w0.heap.size ≤ q; omega
    · simp [Value.ownBlock] at hg; omega
    · simp [Value.ownBlock] at hg

theorem RLay.own_setV {L : RLay} {k : Nat} {v' : Value} {n : Nat} (h3 : ∀ g, v'.ownBlock = some g → (L.V k).ownBlock = some g ∨ n ≤ g) {W g : Nat} (hk : k < 4 * W) (h : (L.setV k v').own W g) : L.own W g ∨ n ≤ g := by
  rcases h with h | h | h | h | ⟨j, hj, h⟩
  · exact .inl (.inl h)
  · exact .inl (.inr (.inl h))
  · exact .inl (.inr (.inr (.inl h)))
  · exact .inl (.inr (.inr (.inr (.inl h))))
  · simp only [RLay.setV] at h
    by_cases hjk : j = k
    · rw [if_pos hjk] at h
      rcases h3 g h with e | hge
      · exact .inl (.inr (.inr (.inr (.inr ⟨k, hk, e⟩))))
      · exact .inr hge
    · rw [if_neg hjk] at h
      exact .inl (.inr (.inr (.inr (.inr ⟨j, hj, h⟩))))
theorem RLay.own_setT {L : RLay} {v' : Value} {n : Nat} (h3 : ∀ g, v'.ownBlock = some g → L.tv.ownBlock = some g ∨ n ≤ g) {W g : Nat} (h : (L.setT v').own W g) : L.own W g ∨ n ≤ g := by
  rcases h with h | h | h | h | h
  · exact .inl (.inl h)
  · exact .inl (.inr (.inl h))
  · exact .inl (.inr (.inr (.inl h)))
  · rcases h3 g h with e | hge
    · exact .inl (.inr (.inr (.inr (.inl e))))
    · exact .inr hge
  · exact .inl (.inr (.inr (.inr (.inr h))))

section
variable {w w1 wr : World} {B : Nat} {s : Shp} {r f q bx N : Nat} {rows rows' : Nat → List Int} {L : RLay}
theorem RNew.addR (h : RNew w B s r f q bx rows N L wr) {a c : Nat} (ha : a < s.W) (hc : c < 3) {u : World} {v' : Value} {l : List Int} (h1 : RowI u B v' l) (h2 : Turn (fun g => (L.V (4 * a + c)).ownBlock = some g) wr u)
    (h3 : v'.ownBlock = (L.V (4 * a + c)).ownBlock ∨ ∃ g, v'.ownBlock = some g ∧ wr.heap.size ≤ g) : RNew w B s r f q bx (fun j => if j = 4 * a + c then l else rows j) N (L.setV (4 * a + c) v') (u.setCell ⟨f, a * 3 + c, none⟩ v') := by
  have hk : 4 * a + c < 4 * s.W := by omega
  have hl := h.lies.setFree ha hc (RowK.of h1) h2 (ob1 h3)
  have hf := h.f
  have hbox := h.box.turn h2 ((h.lies.rows _ hk).rd.ne_type h.box (by decide))
  have hne : bx ≠ L.f := h.box.ne_type h.lies.frees (by decide)
  refine ⟨by rw [← hf]; exact hl, h.r, h.f, h.q, ?_, ?_, ?_, h.bx⟩
  · rw [← hf]
    exact hbox.other (p := ⟨L.f, a * 3 + c, none⟩) hne _
  · rw [← hf]
    exact (h.turn.trans h2 (fun g hg => .inr (h.own g (.inr (.inr (.inr (.inr ⟨_, hk, hg⟩))))))).setCell (p := ⟨L.f, a * 3 + c, none⟩) (.inr (h.own _ (.inr (.inl rfl)))) _
  · intro g hg
    rcases RLay.own_setV (ob1 h3) hk hg with a | a
    · exact h.own g a
    · exact Nat.le_trans h.turn.size a
theorem RNew.addT (h : RNew w B s r f q bx rows N L wr) {u : World} {v' : Value} (h1 : u.ownsRow B 4 1 v' (N + 2) ((List.replicate (N + 1) false).map Value.bool ++ [.bool false])) (h2 : Turn (fun g => L.tv.ownBlock = some g) wr u)
    (h3 : v'.ownBlock = L.tv.ownBlock ∨ ∃ g, v'.ownBlock = some g ∧ wr.heap.size ≤ g) : RNew w B s r f q bx rows (N + 1) (L.setT v') (u.setCell ⟨r, 9, none⟩ v') := by
  have e : List.replicate (N + 1 + 1) false = List.replicate (N + 1) false ++ [false] := List.replicate_succ'
  have hl := h.lies.setTk (v' := v') (tk' := List.replicate (N + 1 + 1) false) (by rw [e]; simpa using h1) h2
  have hr := h.r
  have hbox := h.box.turn h2 (own_ne_type h.lies.taken h.box (by decide))
  have hne : bx ≠ L.r := h.box.ne_type h.lies.top (by decide)
  refine ⟨by rw [← hr]; exact hl, h.r, h.f, h.q, ?_, ?_, ?_, h.bx⟩
  · rw [← hr]
    exact hbox.other (p := ⟨L.r, 9, none⟩) hne _
  · rw [← hr]
    exact (h.turn.trans h2 (fun g hg => .inr (h.own g (.inr (.inr (.inr (.inl hg))))))).setCell (p := ⟨L.r, 9, none⟩) (.inr (h.own _ (.inl rfl))) _
  · intro g hg
    rcases RLay.own_setT (ob1 h3) hg with a | a
    · exact h.own g a
    · exact Nat.le_trans h.turn.size a
theorem RNew.congr (h : RNew w B s r f q bx rows N L wr) (he : ∀ k, k < 4 * s.W → rows k = rows' k) : RNew w B s r f q bx rows' N L wr :=
  ⟨⟨h.lies.top, h.lies.frees, h.lies.fars, h.lies.taken, fun k hk => by rw [← he k hk]; exact h.lies.rows k hk, h.lies.dis, h.lies.rB⟩, h.r, h.f, h.q, h.box, h.turn, h.own, h.bx⟩
end

set_option maxRecDepth 100000 in
set_option maxHeartbeats 4000000 in
theorem rnew_good (s : Shp) (h : s.Right) (w : World) (B : Nat) (hB : B ≤ w.heap.size) :
    Calls Try.prog 14 #[s.val] w fun e w' => ∃ L, e = .returned (.pointer (some ⟨L.r, 0, none⟩)) ∧ RLies true w' B L s (s.rowAt (s.off 3)) (List.replicate (s.off 3 + 1) false) ∧ Turn (fun _ => False) w w' ∧ ∀ g, L.own s.W g → w.heap.size ≤ g := by
  have hW2 := h.W2; have hW1 := h.W1
  have HRi := Lib.hid h
  unfold Shp.val shpV
  clear h
  have hb0 := Lib.hid (Blk.new w s.cells 26)
  have HT0 := Lib.hid ((Turn.refl (fun _ => False) w).alloc (.cells s.cells.toArray 26))
  have mk1 := fun w => make_a3s s.W hW2 w
  have mk2 := fun w => make_sInt s.W hW2 w
  obtain ⟨bx, hbx⟩ : ∃ bx, bx = w.heap.size := ⟨_, rfl⟩
  have HX := Lib.hid hbx
  have HB := Lib.hid hB
  clear hB
  unfold Shp.cells at hb0 HT0
  go_enter Try.func14, Try.ntmps14
  go_upto_region 1 with fail
  obtain ⟨w1, hw1⟩ : ∃ w1, w1 = w.alloc (.cells #[.int .i64 s.W, .int .i64 (s.z 0), .int .i64 (s.z 1), .int .i64 (s.z 2), .int .i64 (s.n 0), .int .i64 (s.n 1), .int .i64 (s.n 2)] 26) := ⟨_, rfl⟩
  rw [← hw1] at hb0 HT0 ⊢
  rw [← hbx] at hb0 ⊢
  clear hbx hw1
  obtain ⟨c0, c1, c2, c3, c4, c5, c6⟩ := shp_cells hb0.out
  have hlt := hb0.out.lt
  have hlt1 : bx < w1.heap.size + 1 := by omega
  have hlt2 : bx < w1.heap.size + 1 + 1 := by omega
  have hlt3 : bx < w1.heap.size + 1 + 1 + 1 := by omega
  go_cut [3] from 7 to 16 (fun s3 wx => ∃ r f q t, s3 = .pointer (some ⟨r, 0, none⟩) ∧ Turn (fun _ => False) w1 wx ∧ (w1.heap.size ≤ r ∧ w1.heap.size ≤ f ∧ w1.heap.size ≤ q ∧ w1.heap.size ≤ t) ∧
    Blk wx r (s.cells ++ [.slice (some ⟨f, 0, none⟩) s.W s.W, .slice (some ⟨q, 0, none⟩) s.W s.W, .slice (some ⟨t, 0, none⟩) 1 1]) 81 ∧ Blk wx f (List.replicate (3 * s.W) (.slice none 0 0)) 75 ∧
    Blk wx q (List.replicate s.W (.slice none 0 0)) 74 ∧ Blk wx t [.bool false] 4)
  case first =>
    go_region
    all_goals go_wp2_with fail
    all_goals go_meet
    · exact ⟨_, w1.heap.size, w1.heap.size + 1, w1.heap.size + 1 + 1, rfl, (((((Turn.refl _ _).alloc _).alloc _).alloc _).alloc _).drew, ⟨by omega, by omega, by omega, by omega⟩, blk_arr (four_allocs _ _ _ _ _).2.2.2 rfl, blk_arr (four_allocs _ _ _ _ _).1 (by simp), blk_arr (four_allocs _ _ _ _ _).2.1 (by simp), blk_arr (four_allocs _ _ _ _ _).2.2.1 rfl⟩
    · exact ⟨_, w1.heap.size, w1.heap.size + 1 + 1, w1.heap.size + 1, rfl, (((((Turn.refl _ _).alloc _).alloc _).alloc _).alloc _).drew, ⟨by omega, by omega, by omega, by omega⟩, blk_arr (four_allocs _ _ _ _ _).2.2.2 rfl, blk_arr (four_allocs _ _ _ _ _).1 (by simp), blk_arr (four_allocs _ _ _ _ _).2.2.1 (by simp), blk_arr (four_allocs _ _ _ _ _).2.1 rfl⟩
    · exact ⟨_, w1.heap.size + 1, w1.heap.size, w1.heap.size + 1 + 1, rfl, (((((Turn.refl _ _).alloc _).alloc _).alloc _).alloc _).drew, ⟨by omega, by omega, by omega, by omega⟩, blk_arr (four_allocs _ _ _ _ _).2.2.2 rfl, blk_arr (four_allocs _ _ _ _ _).2.1 (by simp), blk_arr (four_allocs _ _ _ _ _).1 (by simp), blk_arr (four_allocs _ _ _ _ _).2.2.1 rfl⟩
    · exact ⟨_, w1.heap.size + 1 + 1, w1.heap.size, w1.heap.size + 1, rfl, (((((Turn.refl _ _).alloc _).alloc _).alloc _).alloc _).drew, ⟨by omega, by omega, by omega, by omega⟩, blk_arr (four_allocs _ _ _ _ _).2.2.2 rfl, blk_arr (four_allocs _ _ _ _ _).2.2.1 (by simp), blk_arr (four_allocs _ _ _ _ _).1 (by simp), blk_arr (four_allocs _ _ _ _ _).2.1 rfl⟩
    · exact ⟨_, w1.heap.size + 1, w1.heap.size + 1 + 1, w1.heap.size, rfl, (((((Turn.refl _ _).alloc _).alloc _).alloc _).alloc _).drew, ⟨by omega, by omega, by omega, by omega⟩, blk_arr (four_allocs _ _ _ _ _).2.2.2 rfl, blk_arr (four_allocs _ _ _ _ _).2.1 (by simp), blk_arr (four_allocs _ _ _ _ _).2.2.1 (by simp), blk_arr (four_allocs _ _ _ _ _).1 rfl⟩
    · exact ⟨_, w1.heap.size + 1 + 1, w1.heap.size + 1, w1.heap.size, rfl, (((((Turn.refl _ _).alloc _).alloc _).alloc _).alloc _).drew, ⟨by omega, by omega, by omega, by omega⟩, blk_arr (four_allocs _ _ _ _ _).2.2.2 rfl, blk_arr (four_allocs _ _ _ _ _).2.2.1 (by simp), blk_arr (four_allocs _ _ _ _ _).2.1 (by simp), blk_arr (four_allocs _ _ _ _ _).1 rfl⟩
  case rest =>
    obtain ⟨r, f, q, t, rfl, ht, hr, h1, h2, h3, h4⟩ := hcut
    have H0 := Lib.hid (rnew_made HB.out hb0.out (by rw [HX.out]; exact Nat.le_refl _) HT0.out ht hr h1 h2 h3 h4)
    clear ht hr h1 h2 h3 h4 c0 c1 c2 c3 c4 c5 c6 hlt hlt1 hlt2 hlt3 mk1 mk2
    have hrow : s.rowAt 0 = fun _ => [] := by have := s.at_zero 0; unfold Shp.at_ at this; injection this
    have H1 := H0.out
    rw [← hrow] at H1
    have H2 := Lib.hid H1
    clear H1 H0 hb0 HT0 hrow
    go_wp2_with fail
    go_loopw [4] (fun t wr => ∃ (c : Nat) (L : RLay), c ≤ 3 ∧ t = .int .i64 c ∧ RNew w B s r f q bx (s.rowAt (s.off c)) (s.off c) L wr) (fun t _ => 3 - (intOf t).toNat)
    case atStart => exact ⟨0, _, by omega, rfl, H2.out⟩
    case round =>
      obtain ⟨c, L, hc, rfl, hN⟩ := hrel
      have HC := Lib.hid hN
      have c0 : wr.cell? ⟨bx, 0, none⟩ = some (.int .i64 s.W) := hN.box.cell 0
      clear hN H2
      by_cases hlt : c < 3
      · go_wp2_with fail
        clear c0
        obtain ⟨wo, rfl⟩ : ∃ x, x = wr := ⟨_, rfl⟩
        rw [show decide ((c : Int) < 3) = true from decide_eq_true (by omega)]
        go_loopw [5] (fun t wr => ∃ (v : Nat) (L : RLay), v ≤ s.W ∧ t = .int .i64 v ∧ RNew w B s r f q bx (s.rowAt (s.beg v c)) (s.beg v c) L wr) (fun t _ => s.W - (intOf t).toNat)
        case atStart => exact ⟨0, L, by omega, rfl, by rw [Shp.beg0]; exact HC.out⟩
        case round =>
          obtain ⟨v, L2, hv, rfl, hN⟩ := hrel
          have HV := Lib.hid hN
          have c0 : wr.cell? ⟨bx, 0, none⟩ = some (.int .i64 s.W) := hN.box.cell 0
          have cn : wr.cell? ⟨bx, 4 + c, none⟩ = some (.int .i64 (s.n c)) := by
            obtain ⟨-, -, -, -, c4, c5, c6⟩ := shp_cells hN.box
            rcases (show c = 0 ∨ c = 1 ∨ c = 2 by omega) with rfl | rfl | rfl
            · exact c4
            · exact c5
            · exact c6
          clear hN HC
          have hnb : s.n c ≤ 1000 := HRi.out.n1 c hlt
          by_cases hv2 : v < s.W
          · go_wp2_with fail
            clear cn c0
            obtain ⟨wo2, rfl⟩ : ∃ x, x = wr := ⟨_, rfl⟩
            try rw [show decide ((v : Int) < (s.W : Int)) = true from decide_eq_true (by omega)]
            go_loopw [6] (fun t wr => ∃ (i : Nat) (L : RLay), i ≤ s.n c ∧ t = .int .i64 i ∧ RNew w B s r f q bx (s.rowAt (s.beg v c + i)) (s.beg v c + i) L wr) (fun t _ => s.n c - (intOf t).toNat)
            case atStart => exact ⟨0, L2, by omega, rfl, HV.out⟩
            case round =>
              obtain ⟨i, L3, hi, rfl, hN⟩ := hrel
              have HI := Lib.hid hN
              have cn : wr.cell? ⟨bx, 4 + c, none⟩ = some (.int .i64 (s.n c)) := by
                obtain ⟨-, -, -, -, c4, c5, c6⟩ := shp_cells hN.box
                rcases (show c = 0 ∨ c = 1 ∨ c = 2 by omega) with rfl | rfl | rfl
                · exact c4
                · exact c5
                · exact c6
              clear hN HV
              by_cases hi2 : i < s.n c
              · go_wp2_with fail
                clear cn
                have hi0 : (i : Int) < (s.n c : Int) := by omega
                have i0 : (0 : Int) ≤ (c : Int) := by omega
                have i1 : (c : Int) < 3 := by omega
                have v0 : (0 : Int) ≤ (v : Int) := by omega
                have v1 : (v : Int) < (s.W : Int) := by omega
                obtain ⟨N, hN⟩ : ∃ N, N = s.beg v c + i := ⟨_, rfl⟩
                have hN2 : N ≤ 192000 := by
                  have h1 := s.beg_in (w := v) (c := c) hv2
                  have h2 := s.off_mono (show c + 1 ≤ 3 by omega)
                  have h3 := Shp.off_le HRi.out
                  omega
                have hkk : 4 * v + c < 4 * s.W := by omega
                obtain ⟨tv, htv⟩ : ∃ tv, tv = L3.tv := ⟨_, rfl⟩
                obtain ⟨rv, hrv⟩ : ∃ rv, rv = L3.V (4 * v + c) := ⟨_, rfl⟩
                obtain ⟨rl, hrl⟩ : ∃ rl, rl = s.rowAt (s.beg v c + i) (4 * v + c) := ⟨_, rfl⟩
                have hrlen : rl.length ≤ 1000 := by rw [hrl]; exact Shp.rowAt_len HRi.out _ _
                have e7 : wr.cell? ⟨r, 7, none⟩ = some (.slice (some ⟨f, 0, none⟩) s.W s.W) := by
                  have := HI.out.lies.top.cell 7
                  rw [HI.out.r] at this
                  rw [this]; unfold RLay.top; rw [HI.out.f]; rfl
                have e9 : wr.cell? ⟨r, 9, none⟩ = some tv := by
                  have := HI.out.lies.top.cell 9
                  rw [HI.out.r] at this
                  rw [this, htv]; rfl
                have eV : wr.cell? ⟨f, v * 3 + c, none⟩ = some rv := by
                  have := HI.out.lies.frees.cell (v * 3 + c)
                  rw [HI.out.f] at this
                  rw [this, hrv]
                  unfold RLay.frees
                  rw [List.getElem?_map, List.getElem?_range (by omega)]
                  simp only [Option.map_some]
                  rw [show 4 * ((v * 3 + c) / 3) + (v * 3 + c) % 3 = 4 * v + c by omega]
                have fV : wr.frozen? ⟨f, v * 3 + c, none⟩ = false := by
                  have := HI.out.lies.frees.free (v * 3 + c)
                  rwa [HI.out.f] at this
                obtain ⟨tg, tcap, htf, -, -⟩ := HI.out.lies.taken.form (by simp)
                rw [List.length_replicate, ← htv, ← hN] at htf
                rw [htf] at e9 htv
                have HB2 := Lib.hid (fun (o : Obj) => show ((wr.alloc o).drew).ownsRow B 3 1 rv rl.length (rl.map (Value.int .i64)) from by
                  rw [hrv, hrl]
                  exact own_turn (((HI.out.lies.rows (4 * v + c) hkk).own).alloc o) ((Turn.refl (fun _ => False) _).drew) (fun _ _ h => h))
                have KP2 := Lib.hid (fun (o : Obj) (w2 : World) (hg : ((wr.alloc o).drew).grownBy w2 rv.ownBlock) => show w2.cell? ⟨r, 7, none⟩ = some (.slice (some ⟨f, 0, none⟩) s.W s.W) ∧ w2.cell? ⟨f, v * 3 + c, none⟩ = some rv ∧ w2.frozen? ⟨f, v * 3 + c, none⟩ = false ∧ w2.cell? ⟨r, 9, none⟩ = some (.slice (some ⟨tg, 0, none⟩) (N + 1) tcap) from by
                  have ht : Turn (fun g => (L3.V (4 * v + c)).ownBlock = some g) wr w2 := Turn.trans (((Turn.refl _ wr).alloc o).drew) (Turn.of_grown hg) (fun k hk => .inl (by rw [← hrv]; exact hk.symm))
                  have hne : ¬ (L3.V (4 * v + c)).ownBlock = some f := by rw [← HI.out.f]; exact (HI.out.lies.rows _ hkk).rd.ne_type HI.out.lies.frees (by decide)
                  have hne2 : ¬ (L3.V (4 * v + c)).ownBlock = some r := by rw [← HI.out.r]; exact (HI.out.lies.rows _ hkk).rd.ne_type HI.out.lies.top (by decide)
                  have hpl : f < wr.heap.size := by rw [← HI.out.f]; exact HI.out.lies.frees.lt
                  have hpl2 : r < wr.heap.size := by rw [← HI.out.r]; exact HI.out.lies.top.lt
                  rw [ht.cell (a := ⟨f, v * 3 + c, none⟩) hpl hne, ht.frozen (a := ⟨f, v * 3 + c, none⟩) hpl hne, ht.cell (a := ⟨r, 7, none⟩) hpl2 hne2, ht.cell (a := ⟨r, 9, none⟩) hpl2 hne2]
                  exact ⟨e7, eV, fV, e9⟩)
                have hps2 : r ≠ f := by rw [← HI.out.r, ← HI.out.f]; exact HI.out.lies.top.ne_type HI.out.lies.frees (by decide)
                have hlt3 := World.block_lt_of_cell? _ _ e9
                have hlt4 := World.block_lt_of_cell? _ _ eV
                have hBu : B ≤ wr.heap.size := by have := HI.out.turn.size; have := HB.out; omega
                have HRV := Lib.hid hrv; have HRL := Lib.hid hrl; have HNN := Lib.hid hN; have HTV := Lib.hid htv
                clear hrv hrl hN htv htf
                obtain ⟨j0', hj0, hy0, hy1, hy2⟩ := info_parts info_int10
                have HJ0 := Lib.hid hj0; have HY0 := Lib.hid hy0; have HY1 := Lib.hid hy1; have HY2 := Lib.hid hy2
                clear hj0 hy0 hy1 hy2
                refine wpL_begin (by kernel_rfl) [24] (fun w' => w'.cell? ⟨r, 9, none⟩ = some (.slice (some ⟨tg, 0, none⟩) (N + 1) tcap) ∧ w'.cell? ⟨r, 7, none⟩ = some (.slice (some ⟨f, 0, none⟩) s.W s.W) ∧ w'.cell? ⟨f, v * 3 + c, none⟩ = some rv) ?_
                have HS1 : wr.drew.cell? ⟨r, 9, none⟩ = some (.slice (some ⟨tg, 0, none⟩) (N + 1) tcap) ∧ wr.drew.cell? ⟨r, 7, none⟩ = some (.slice (some ⟨f, 0, none⟩) s.W s.W) ∧ wr.drew.cell? ⟨f, v * 3 + c, none⟩ = some rv := ⟨e9, e7, eV⟩
                refine wpL_pure (i := 0) (v := ?_) rfl (by kernel_rfl) (by kernel_rfl) (by kernel_rfl) (fun _ _ _ h => h) (Or.inl ⟨by rfl, ?_⟩) ?_
                rotate_left
                · intro w' hSw
                  (try dsimp only at hSw)
                  go_simp
                  (try with_reducible rfl)
                (try simp only [Act.put, List.setIfInBounds_toArray, List.set_cons_zero, List.set_cons_succ])
                refine wpL_pure (i := 1) (v := ?_) rfl (by kernel_rfl) (by kernel_rfl) (by kernel_rfl) (fun _ _ _ h => h) (Or.inl ⟨by rfl, ?_⟩) ?_
                rotate_left
                · intro w' hSw
                  (try dsimp only at hSw)
                  go_simp
                  (try with_reducible rfl)
                (try simp only [Act.put, List.setIfInBounds_toArray, List.set_cons_zero, List.set_cons_succ])
                refine wpL_pure (i := 2) (v := ?_) rfl (by kernel_rfl) (by kernel_rfl) (by kernel_rfl) (fun _ _ _ h => h) (Or.inl ⟨by rfl, ?_⟩) ?_
                rotate_left
                · intro w' hSw
                  (try dsimp only at hSw)
                  go_simp
                  (try with_reducible rfl)
                (try simp only [Act.put, List.setIfInBounds_toArray, List.set_cons_zero, List.set_cons_succ])
                refine wpL_take (i := 3) (v := ?_) rfl (by kernel_rfl) (by kernel_rfl) (by kernel_rfl) (by kernel_rfl) (fun _ _ _ h => h) (Or.inl ⟨by rfl, ?_⟩) (by assumption) ?_
                rotate_left
                · intro w' hSw
                  (try dsimp only at hSw)
                  go_simp
                  (try with_reducible rfl)
                (try simp only [Act.put, List.setIfInBounds_toArray, List.set_cons_zero, List.set_cons_succ])
                refine wpL_pure (i := 4) (v := ?_) rfl (by kernel_rfl) (by kernel_rfl) (by kernel_rfl) (fun _ _ _ h => h) (Or.inl ⟨by rfl, ?_⟩) ?_
                rotate_left
                · intro w' hSw
                  (try dsimp only at hSw)
                  go_simp
                  (try with_reducible rfl)
                (try simp only [Act.put, List.setIfInBounds_toArray, List.set_cons_zero, List.set_cons_succ])
                refine wpL_pure (i := 5) (v := ?_) rfl (by kernel_rfl) (by kernel_rfl) (by kernel_rfl) (fun _ _ _ h => h) (Or.inl ⟨by rfl, ?_⟩) ?_
                rotate_left
                · intro w' hSw
                  (try dsimp only at hSw)
                  go_simp
                  (try with_reducible rfl)
                (try simp only [Act.put, List.setIfInBounds_toArray, List.set_cons_zero, List.set_cons_succ])
                refine wpL_pure (i := 6) (v := ?_) rfl (by kernel_rfl) (by kernel_rfl) (by kernel_rfl) (fun _ _ _ h => h) (Or.inl ⟨by rfl, ?_⟩) ?_
                rotate_left
                · intro w' hSw
                  (try dsimp only at hSw)
                  go_simp
                  (try with_reducible rfl)
                (try simp only [Act.put, List.setIfInBounds_toArray, List.set_cons_zero, List.set_cons_succ])
                refine wpL_pure (i := 7) (v := ?_) rfl (by kernel_rfl) (by kernel_rfl) (by kernel_rfl) (fun _ _ _ h => h) (Or.inl ⟨by rfl, ?_⟩) ?_
                rotate_left
                · intro w' hSw
                  (try dsimp only at hSw)
                  go_simp
                  (try with_reducible rfl)
                (try simp only [Act.put, List.setIfInBounds_toArray, List.set_cons_zero, List.set_cons_succ])
                refine wpL_pure (i := 8) (v := ?_) rfl (by kernel_rfl) (by kernel_rfl) (by kernel_rfl) (fun _ _ _ h => h) (Or.inl ⟨by rfl, ?_⟩) ?_
                rotate_left
                · intro w' hSw
                  (try dsimp only at hSw)
                  go_simp
                  (try with_reducible rfl)
                (try simp only [Act.put, List.setIfInBounds_toArray, List.set_cons_zero, List.set_cons_succ])
                refine wpL_take (i := 9) (v := ?_) rfl (by kernel_rfl) (by kernel_rfl) (by kernel_rfl) (by kernel_rfl) (fun _ _ _ h => h) (Or.inl ⟨by rfl, ?_⟩) (by assumption) ?_
                rotate_left
                · intro w' hSw
                  (try dsimp only at hSw)
                  go_simp
                  (try with_reducible rfl)
                (try simp only [Act.put, List.setIfInBounds_toArray, List.set_cons_zero, List.set_cons_succ])
                refine wpL_pure (i := 10) (v := ?_) rfl (by kernel_rfl) (by kernel_rfl) (by kernel_rfl) (fun _ _ _ h => h) (Or.inl ⟨by rfl, ?_⟩) ?_
                rotate_left
                · intro w' hSw
                  (try dsimp only at hSw)
                  go_simp
                  (try with_reducible rfl)
                (try simp only [Act.put, List.setIfInBounds_toArray, List.set_cons_zero, List.set_cons_succ])
                refine wpL_pure (i := 11) (v := ?_) rfl (by kernel_rfl) (by kernel_rfl) (by kernel_rfl) (fun _ _ _ h => h) (Or.inl ⟨by rfl, ?_⟩) ?_
                rotate_left
                · intro w' hSw
                  (try dsimp only at hSw)
                  go_simp
                  (try with_reducible rfl)
                (try simp only [Act.put, List.setIfInBounds_toArray, List.set_cons_zero, List.set_cons_succ])
                refine wpL_pure (i := 12) (v := ?_) rfl (by kernel_rfl) (by kernel_rfl) (by kernel_rfl) (fun _ _ _ h => h) (Or.inl ⟨by rfl, ?_⟩) ?_
                rotate_left
                · intro w' hSw
                  (try dsimp only at hSw)
                  go_simp
                  (try with_reducible rfl)
                (try simp only [Act.put, List.setIfInBounds_toArray, List.set_cons_zero, List.set_cons_succ])
                refine wpL_pure (i := 13) (v := ?_) rfl (by kernel_rfl) (by kernel_rfl) (by kernel_rfl) (fun _ _ _ h => h) (Or.inl ⟨by rfl, ?_⟩) ?_
                rotate_left
                · intro w' hSw
                  (try dsimp only at hSw)
                  go_simp
                  (try with_reducible rfl)
                (try simp only [Act.put, List.setIfInBounds_toArray, List.set_cons_zero, List.set_cons_succ])
                refine wpL_take (i := 14) (v := ?_) rfl (by kernel_rfl) (by kernel_rfl) (by kernel_rfl) (by kernel_rfl) (fun _ _ _ h => h) (Or.inl ⟨by rfl, ?_⟩) (by assumption) ?_
                rotate_left
                · intro w' hSw
                  (try dsimp only at hSw)
                  go_simp
                  (try with_reducible rfl)
                (try simp only [Act.put, List.setIfInBounds_toArray, List.set_cons_zero, List.set_cons_succ])
                refine wpL_pure (i := 15) (v := ?_) rfl (by kernel_rfl) (by kernel_rfl) (by kernel_rfl) (fun _ _ _ h => h) (Or.inl ⟨by rfl, ?_⟩) ?_
                rotate_left
                · intro w' hSw
                  (try dsimp only at hSw)
                  go_simp
                  (try with_reducible rfl)
                (try simp only [Act.put, List.setIfInBounds_toArray, List.set_cons_zero, List.set_cons_succ])
                refine wpL_pure (i := 16) (v := ?_) rfl (by kernel_rfl) (by kernel_rfl) (by kernel_rfl) (fun _ _ _ h => h) (Or.inl ⟨by rfl, ?_⟩) ?_
                rotate_left
                · intro w' hSw
                  (try dsimp only at hSw)
                  go_simp
                  (try with_reducible rfl)
                (try simp only [Act.put, List.setIfInBounds_toArray, List.set_cons_zero, List.set_cons_succ])
                refine wpL_pure (i := 17) (v := ?_) rfl (by kernel_rfl) (by kernel_rfl) (by kernel_rfl) (fun _ _ _ h => h) (Or.inl ⟨by rfl, ?_⟩) ?_
                rotate_left
                · intro w' hSw
                  (try dsimp only at hSw)
                  go_simp
                  (try with_reducible rfl)
                (try simp only [Act.put, List.setIfInBounds_toArray, List.set_cons_zero, List.set_cons_succ])
                refine wpL_take (i := 18) (v := ?_) rfl (by kernel_rfl) (by kernel_rfl) (by kernel_rfl) (by kernel_rfl) (fun _ _ _ h => h) (Or.inl ⟨by rfl, ?_⟩) (by assumption) ?_
                rotate_left
                · intro w' hSw
                  (try dsimp only at hSw)
                  go_simp
                  (try with_reducible rfl)
                (try simp only [Act.put, List.setIfInBounds_toArray, List.set_cons_zero, List.set_cons_succ])
                refine wpL_pure (i := 19) (v := ?_) rfl (by kernel_rfl) (by kernel_rfl) (by kernel_rfl) (fun _ _ _ h => h) (Or.inl ⟨by rfl, ?_⟩) ?_
                rotate_left
                · intro w' hSw
                  (try dsimp only at hSw)
                  go_simp
                  (try with_reducible rfl)
                (try simp only [Act.put, List.setIfInBounds_toArray, List.set_cons_zero, List.set_cons_succ])
                refine wpL_pure (i := 22) (v := ?_) rfl (by kernel_rfl) (by kernel_rfl) (by kernel_rfl) (fun _ _ _ h => h) (Or.inl ⟨by rfl, ?_⟩) ?_
                rotate_left
                · intro w' hSw
                  (try dsimp only at hSw)
                  go_simp
                  (try with_reducible rfl)
                (try simp only [Act.put, List.setIfInBounds_toArray, List.set_cons_zero, List.set_cons_succ])
                refine wpL_one (i := 20) (by kernel_rfl) rfl (fun K hK => ?_)
                go_simp
                refine hK _ _ (fun _ _ => ?_) ?_
                · (refine ⟨?_, ?_, ?_⟩ <;> go_keep)
                clear hK K
                (try simp only [Act.put, List.setIfInBounds_toArray, List.set_cons_zero, List.set_cons_succ])
                refine wpL_one (i := 21) (by kernel_rfl) rfl (fun K hK => ?_)
                refine step_append_lies _ (by rfl) (.tmp 49) (.tmp 55) 74 (by rfl) B 3 j0' _ 1 8 Try.underlying74 HJ0.out HY0.out HY1.out HY2.out rfl (by decide) rv rl.length (rl.map (Value.int .i64)) (by rfl) (HB2.out _) ⟨wr.heap.size, 0, none⟩ 1 1 [.int .i64 ((N : Int) + 1)] (by rfl) rfl (World.news_of_block (heap_alloc_new wr _)) (by intro u hu; simp at hu; subst hu; rfl) (by omega) (by unfold maxLen; omega) (by omega) (by simp; omega) (wr.heap.size + 1) (by simp) ?_
                intro g2 cap2 w2 hown hgrow hat hltg
                have HOWN2 := Lib.hid hown
                have HGR2 := Lib.hid hgrow
                have HAT2 := Lib.hid hat
                obtain ⟨d7, dV, fdV, d9⟩ := KP2.out _ _ hgrow
                clear hown hgrow hat
                refine hK _ _ (fun _ _ => ⟨d9, d7, dV⟩) ?_
                clear hK K HS1
                (try simp only [Act.put, List.setIfInBounds_toArray, List.set_cons_zero, List.set_cons_succ])
                refine wpL_pure (i := 23) (v := ?_) rfl (by kernel_rfl) (by kernel_rfl) (by kernel_rfl) (fun _ _ _ h => h) (Or.inl ⟨by rfl, ?_⟩) ?_
                rotate_left
                · intro w' hSw
                  (try dsimp only at hSw)
                  go_simp
                  (try with_reducible rfl)
                (try simp only [Act.put, List.setIfInBounds_toArray, List.set_cons_zero, List.set_cons_succ])
                refine wpL_one (i := 24) (by kernel_rfl) rfl (fun K hK => ?_)
                go_simp
                refine hK _ _ (fun h _ => absurd (List.mem_singleton.2 rfl) h) ?_
                clear hK K
                refine wpL_done (by kernel_rfl) ?_ _
                (try simp only [Act.put, List.setIfInBounds_toArray, List.set_cons_zero, List.set_cons_succ])
                go_upto_region 12 with fail
                have hT2 : Turn (fun g => (L3.V (4 * v + c)).ownBlock = some g) wr w2 := Turn.trans (((Turn.refl _ wr).alloc _).drew) (Turn.of_grown HGR2.out) (fun k hk => .inl (by rw [← HRV.out]; exact hk.symm))
                have hR2 : RowI w2 B (.slice (some ⟨g2, 0, none⟩) (rl.length + 1) cap2) (rl ++ [(N : Int) + 1]) := by
                  unfold RowI
                  rw [List.map_append, List.length_append]
                  exact HOWN2.out
                have hN2' := RNew.addR HI.out hv2 hlt hR2 hT2 (HAT2.out.imp (fun h => by show _ = (L3.V (4 * v + c)).ownBlock; rw [← HRV.out]; exact h.symm) (fun h => ⟨g2, rfl, by omega⟩))
                obtain ⟨u1, hu1⟩ : ∃ u1, u1 = w2.setCell ⟨f, v * 3 + c, none⟩ (.slice (some ⟨g2, 0, none⟩) (rl.length + 1) cap2) := ⟨_, rfl⟩
                rw [← hu1] at hN2' ⊢
                have HF := Lib.hid hN2'
                clear hu1 hT2 hR2 hN2' d7 dV fdV d9 e7 e9 eV fV hlt3 hlt4 KP2 HB2 hBu
                have e9 : u1.cell? ⟨r, 9, none⟩ = some (.slice (some ⟨tg, 0, none⟩) (N + 1) tcap) := by
                  have := HF.out.lies.top.cell 9
                  rw [HF.out.r] at this
                  rw [this, HTV.out]; rfl
                have f9 : u1.frozen? ⟨r, 9, none⟩ = false := by
                  have := HF.out.lies.top.free 9
                  rwa [HF.out.r] at this
                have HB3 := Lib.hid (fun (o : Obj) => show (u1.alloc o).ownsRow B 4 1 (.slice (some ⟨tg, 0, none⟩) (N + 1) tcap) (N + 1) ((List.replicate (N + 1) false).map Value.bool) from by
                  have := HF.out.lies.taken.alloc o
                  rw [← HNN.out] at this
                  rw [HTV.out]
                  simp only [List.length_replicate] at this
                  exact this)
                have KP3 := Lib.hid (fun (o : Obj) (w3 : World) (hg : (u1.alloc o).grownBy w3 (some tg)) => show w3.cell? ⟨r, 9, none⟩ = some (.slice (some ⟨tg, 0, none⟩) (N + 1) tcap) ∧ w3.frozen? ⟨r, 9, none⟩ = false from by
                  have ht : Turn (fun g => L3.tv.ownBlock = some g) u1 w3 := Turn.trans ((Turn.refl _ u1).alloc o) (Turn.of_grown hg) (fun k hk => .inl (by rw [← HTV.out]; exact hk.symm))
                  have hne2 : ¬ L3.tv.ownBlock = some r := by rw [← HF.out.r]; exact own_ne_type HF.out.lies.taken HF.out.lies.top (by decide)
                  have hpl2 : r < u1.heap.size := by rw [← HF.out.r]; exact HF.out.lies.top.lt
                  rw [ht.cell (a := ⟨r, 9, none⟩) hpl2 hne2, ht.frozen (a := ⟨r, 9, none⟩) hpl2 hne2]
                  exact ⟨e9, f9⟩)
                have hBu : B ≤ u1.heap.size := by have := HF.out.turn.size; have := HB.out; omega
                have hlt4 := World.block_lt_of_cell? _ _ e9
                obtain ⟨k0', hk0, hx0, hx1, hx2⟩ := info_parts info_bool10
                have HK0 := Lib.hid hk0; have HX0 := Lib.hid hx0; have HX1 := Lib.hid hx1; have HX2 := Lib.hid hx2
                clear hk0 hx0 hx1 hx2
                go_wp2_with (refine wpList_append_lies _ (by rfl) (.tmp 63) (.tmp 64) 52 (by rfl) B 4 k0' _ 1 1 Try.underlying52 HK0.out HX0.out HX1.out HX2.out rfl (by decide) (.slice (some ⟨tg, 0, none⟩) (N + 1) tcap) (N + 1) ((List.replicate (N + 1) false).map Value.bool) (by rfl) (HB3.out _) ⟨u1.heap.size, 0, none⟩ 1 1 [.bool false] (by rfl) rfl (World.news_of_block (heap_alloc_new u1 _)) (by intro u hu; simp at hu; subst hu; rfl) (by omega) (by unfold maxLen; omega) (by omega) (by simp; omega) (u1.heap.size + 1) (by simp) ?_; intro g3 cap3 w3 hown hgrow hat hltg; have HOWN3 := Lib.hid hown; have HGR3 := Lib.hid hgrow; have HAT3 := Lib.hid hat; obtain ⟨d9, fd9⟩ := KP3.out _ _ hgrow; clear hown hgrow hat)
                have hT3 : Turn (fun g => L3.tv.ownBlock = some g) u1 w3 := Turn.trans ((Turn.refl _ u1).alloc _) (Turn.of_grown HGR3.out) (fun k hk => .inl (by rw [← HTV.out]; exact hk.symm))
                have hF3 := RNew.addT HF.out (by rw [← HNN.out]; exact HOWN3.out) hT3 (HAT3.out.imp (fun h => by show _ = L3.tv.ownBlock; rw [← HTV.out]; exact h.symm) (fun h => ⟨g3, rfl, by omega⟩))
                have HF3 := Lib.hid hF3
                clear hF3 hT3
                go_roundw
                case rel =>
                  refine ⟨i + 1, _, by omega, by go_num, RNew.congr (N := s.beg v c + (i + 1)) (by rw [← Nat.add_assoc]; exact HF3.out) (fun k hk => ?_)⟩
                  rw [← Nat.add_assoc, Shp.row_step hv2 hlt hi2 hk, HRL.out, HNN.out]
                  split
                  · rename_i e; rw [e]
                  · rfl
                case measure => simp [intOf]; omega
              · go_wp2_with fail
                go_roundw
                case rel =>
                  refine ⟨v + 1, L3, by omega, by go_num, ?_⟩
                  have := HI.out
                  rw [show i = s.n c by omega, Shp.begN] at this
                  exact this
                case measure => simp [intOf]; omega
          · go_wp2_with fail
            go_roundw
            case rel =>
              refine ⟨c + 1, L2, by omega, by go_num, ?_⟩
              have := HV.out
              rw [show v = s.W by omega, Shp.begW] at this
              exact this
            case measure => simp [intOf]; omega
      · obtain rfl : c = 3 := by omega
        go_wp2_with fail
        go_ret
        exact ⟨L, by rw [HC.out.r]; rfl, HC.out.lies, HC.out.turn, HC.out.own⟩

end Go.Proofs.Ytccadafajocbgaa
