/- Layer 10: the document's home. -/
import Derived.Test.YtccadafajocbgaaPoolRA
import Derived.Test.YtccadafajocbgaaRegU
import Derived.Deep.CutRange
open Go Go.RowKit
set_option linter.unusedSimpArgs false
namespace Go.Proofs.Ytccadafajocbgaa

section
variable {w w' : World} {B : Nat} {L : RLay} {s : Shp} {S : PS}

set_option maxRecDepth 100000 in
set_option maxHeartbeats 2000000 in
theorem rhome_any (h : DocS w B L s S) (hR : s.Right) (hBw : B ≤ w.heap.size) (x : Int) (hx : S.there x) (hlen : (S.row (S.home x)).length ≤ 400000) :
    Calls Try.prog 42 #[.pointer (some ⟨L.r, 0, none⟩), .int .i64 x] w (DPost w B L s (S.setRow (S.home x) (x :: S.row (S.home x))) (.tuple #[])) := by
  have hx' := h.there.1 hx
  obtain ⟨j, rfl⟩ : ∃ j : Nat, x = (j : Int) + 1 := ⟨(x - 1).toNat, by omega⟩
  have hj : j < s.off 3 := by omega
  have ej : ((j : Int) + 1 - 1).toNat = j := by omega
  obtain ⟨pa, pc⟩ := h.place hx
  obtain ⟨i1, i2⟩ := h.info _ hx
  rw [ej] at i1 i2
  have CW := Lib.hid (rwhere_at h.lies hR h.tkLen j hj)
  rw [← i1, ← i2] at CW
  obtain ⟨a, ha⟩ : ∃ a, a = (S.blk ((j : Int) + 1)).owner := ⟨_, rfl⟩
  obtain ⟨c, hc⟩ : ∃ c, c = (S.blk ((j : Int) + 1)).cls := ⟨_, rfl⟩
  have hk : S.home ((j : Int) + 1) = 4 * a + c := by unfold PS.home; rw [ha, hc]
  rw [hk] at hlen ⊢
  rw [← ha] at pa; rw [← hc] at pc
  rw [← ha, ← hc] at CW
  generalize (s.place 0 j).pos = po at CW
  generalize (s.place 0 j).size = sz at CW
  have HD := Lib.hid h; have HBw := Lib.hid hBw; have HLen := Lib.hid hlen
  obtain ⟨r, hr⟩ : ∃ r, r = L.r := ⟨_, rfl⟩
  rw [← hr] at CW ⊢
  have HR0 := Lib.hid hr
  clear h hBw hlen i1 i2 ha hc hk hx hx' ej hj hr
  go_enter Try.func42, Try.ntmps42
  go_wp2_with fail
  refine CW.out.mono ?_
  rintro e w1 ⟨rfl, ht⟩
  have HT1 := Lib.hid ht
  have HD1 := Lib.hid (HD.out.still ht)
  have HB1 := Lib.hid (Nat.le_trans HBw.out ht.size)
  clear ht CW
  obtain ⟨-, -, -, c7, -, -⟩ := HD1.out.lies.cellS
  obtain ⟨cV, fV⟩ := HD1.out.lies.cellF pa pc
  rw [← HR0.out] at c7
  obtain ⟨rv, hrv⟩ : ∃ rv, rv = L.V (4 * a + c) := ⟨_, rfl⟩
  obtain ⟨rl, hrl⟩ : ∃ rl, rl = S.row (4 * a + c) := ⟨_, rfl⟩
  obtain ⟨f, hf⟩ : ∃ f, f = L.f := ⟨_, rfl⟩
  obtain ⟨W, hW⟩ : ∃ W, W = s.W := ⟨_, rfl⟩
  rw [← hf, ← hW] at c7
  rw [← hf] at fV
  rw [← hf, ← hrv] at cV
  have hkk : 4 * a + c < 4 * s.W := by omega
  have HROW := Lib.hid (show Rd w1 B rv rl from by rw [hrv, hrl]; exact (HD1.out.lies.rows _ hkk).rd)
  have HL2 := Lib.hid (show rl.length ≤ 400000 from by rw [hrl]; exact HLen.out)
  have hps : r ≠ f := by rw [HR0.out, hf]; exact HD1.out.lies.top.ne_type HD1.out.lies.frees (by decide)
  rw [← hW] at pa
  have HRV := Lib.hid hrv; have HRL := Lib.hid hrl; have HF := Lib.hid hf; have HW := Lib.hid hW; have HKK := Lib.hid hkk
  clear hrv hrl hf hW hkk HLen
  have i0 : (0 : Int) ≤ (c : Int) := by omega
  have i1 : (c : Int) < 3 := by omega
  have v0 : (0 : Int) ≤ (a : Int) := by omega
  have v1 : (a : Int) < (W : Int) := by omega
  have hlt3 := World.block_lt_of_cell? _ _ c7
  have hlt4 := World.block_lt_of_cell? _ _ cV
  simp only [] at hlt3 hlt4
  obtain ⟨j0', hj0, hy0, hy1, hy2⟩ := info_parts info_int10
  have HJ0 := Lib.hid hj0; have HY0 := Lib.hid hy0; have HY1 := Lib.hid hy1; have HY2 := Lib.hid hy2
  clear hj0 hy0 hy1 hy2
  go_wp2_with fail
  refine wpL_begin (by kernel_rfl) [20] (fun w' => w'.cell? ⟨r, 7, none⟩ = some (.slice (some ⟨f, 0, none⟩) W W) ∧ w'.cell? ⟨f, a * 3 + c, none⟩ = some rv) ?_
  have HS1 : w1.drew.cell? ⟨r, 7, none⟩ = some (.slice (some ⟨f, 0, none⟩) W W) ∧ w1.drew.cell? ⟨f, a * 3 + c, none⟩ = some rv := ⟨c7, cV⟩
  refine wpL_pure (i := 0) (v := ?_) rfl (by kernel_rfl) (by kernel_rfl) (by kernel_rfl) (fun _ _ _ h => h) (Or.inl ⟨by rfl, ?_⟩) ?_
  rotate_left
  · intro w' hSw
    (try dsimp only at hSw)
    go_simp
    (try with_reducible rfl)
  (try simp only [Act.put, List.setIfInBounds_toArray, List.set_cons_zero, List.set_cons_succ])
  refine wpL_pure (i := 1) (v := ?_) rfl (by kernel_rfl) (by kernel_rfl) (by kernel_rfl) (fun _ _ _ h => h) (Or.inl ⟨by rfl, ?_⟩) ?_
  rotate_left
  · intro w' hSw
    (try dsimp only at hSw)
    go_simp
    (try with_reducible rfl)
  (try simp only [Act.put, List.setIfInBounds_toArray, List.set_cons_zero, List.set_cons_succ])
  refine wpL_pure (i := 2) (v := ?_) rfl (by kernel_rfl) (by kernel_rfl) (by kernel_rfl) (fun _ _ _ h => h) (Or.inl ⟨by rfl, ?_⟩) ?_
  rotate_left
  · intro w' hSw
    (try dsimp only at hSw)
    go_simp
    (try with_reducible rfl)
  (try simp only [Act.put, List.setIfInBounds_toArray, List.set_cons_zero, List.set_cons_succ])
  refine wpL_take (i := 3) (v := ?_) rfl (by kernel_rfl) (by kernel_rfl) (by kernel_rfl) (by kernel_rfl) (fun _ _ _ h => h) (Or.inl ⟨by rfl, ?_⟩) (by assumption) ?_
  rotate_left
  · intro w' hSw
    (try dsimp only at hSw)
    go_simp
    (try with_reducible rfl)
  (try simp only [Act.put, List.setIfInBounds_toArray, List.set_cons_zero, List.set_cons_succ])
  refine wpL_pure (i := 4) (v := ?_) rfl (by kernel_rfl) (by kernel_rfl) (by kernel_rfl) (fun _ _ _ h => h) (Or.inl ⟨by rfl, ?_⟩) ?_
  rotate_left
  · intro w' hSw
    (try dsimp only at hSw)
    go_simp
    (try with_reducible rfl)
  (try simp only [Act.put, List.setIfInBounds_toArray, List.set_cons_zero, List.set_cons_succ])
  refine wpL_pure (i := 5) (v := ?_) rfl (by kernel_rfl) (by kernel_rfl) (by kernel_rfl) (fun _ _ _ h => h) (Or.inl ⟨by rfl, ?_⟩) ?_
  rotate_left
  · intro w' hSw
    (try dsimp only at hSw)
    go_simp
    (try with_reducible rfl)
  (try simp only [Act.put, List.setIfInBounds_toArray, List.set_cons_zero, List.set_cons_succ])
  refine wpL_pure (i := 6) (v := ?_) rfl (by kernel_rfl) (by kernel_rfl) (by kernel_rfl) (fun _ _ _ h => h) (Or.inl ⟨by rfl, ?_⟩) ?_
  rotate_left
  · intro w' hSw
    (try dsimp only at hSw)
    go_simp
    (try with_reducible rfl)
  (try simp only [Act.put, List.setIfInBounds_toArray, List.set_cons_zero, List.set_cons_succ])
  refine wpL_pure (i := 8) (v := ?_) rfl (by kernel_rfl) (by kernel_rfl) (by kernel_rfl) (fun _ _ _ h => h) (Or.inl ⟨by rfl, ?_⟩) ?_
  rotate_left
  · intro w' hSw
    (try dsimp only at hSw)
    go_simp
    (try with_reducible rfl)
  (try simp only [Act.put, List.setIfInBounds_toArray, List.set_cons_zero, List.set_cons_succ])
  refine wpL_pure (i := 9) (v := ?_) rfl (by kernel_rfl) (by kernel_rfl) (by kernel_rfl) (fun _ _ _ h => h) (Or.inl ⟨by rfl, ?_⟩) ?_
  rotate_left
  · intro w' hSw
    (try dsimp only at hSw)
    go_simp
    (try with_reducible rfl)
  (try simp only [Act.put, List.setIfInBounds_toArray, List.set_cons_zero, List.set_cons_succ])
  refine wpL_pure (i := 10) (v := ?_) rfl (by kernel_rfl) (by kernel_rfl) (by kernel_rfl) (fun _ _ _ h => h) (Or.inl ⟨by rfl, ?_⟩) ?_
  rotate_left
  · intro w' hSw
    (try dsimp only at hSw)
    go_simp
    (try with_reducible rfl)
  (try simp only [Act.put, List.setIfInBounds_toArray, List.set_cons_zero, List.set_cons_succ])
  refine wpL_take (i := 11) (v := ?_) rfl (by kernel_rfl) (by kernel_rfl) (by kernel_rfl) (by kernel_rfl) (fun _ _ _ h => h) (Or.inl ⟨by rfl, ?_⟩) (by assumption) ?_
  rotate_left
  · intro w' hSw
    (try dsimp only at hSw)
    go_simp
    (try with_reducible rfl)
  (try simp only [Act.put, List.setIfInBounds_toArray, List.set_cons_zero, List.set_cons_succ])
  refine wpL_pure (i := 12) (v := ?_) rfl (by kernel_rfl) (by kernel_rfl) (by kernel_rfl) (fun _ _ _ h => h) (Or.inl ⟨by rfl, ?_⟩) ?_
  rotate_left
  · intro w' hSw
    (try dsimp only at hSw)
    go_simp
    (try with_reducible rfl)
  (try simp only [Act.put, List.setIfInBounds_toArray, List.set_cons_zero, List.set_cons_succ])
  refine wpL_pure (i := 13) (v := ?_) rfl (by kernel_rfl) (by kernel_rfl) (by kernel_rfl) (fun _ _ _ h => h) (Or.inl ⟨by rfl, ?_⟩) ?_
  rotate_left
  · intro w' hSw
    (try dsimp only at hSw)
    go_simp
    (try with_reducible rfl)
  (try simp only [Act.put, List.setIfInBounds_toArray, List.set_cons_zero, List.set_cons_succ])
  refine wpL_pure (i := 14) (v := ?_) rfl (by kernel_rfl) (by kernel_rfl) (by kernel_rfl) (fun _ _ _ h => h) (Or.inl ⟨by rfl, ?_⟩) ?_
  rotate_left
  · intro w' hSw
    (try dsimp only at hSw)
    go_simp
    (try with_reducible rfl)
  (try simp only [Act.put, List.setIfInBounds_toArray, List.set_cons_zero, List.set_cons_succ])
  refine wpL_pure (i := 15) (v := ?_) rfl (by kernel_rfl) (by kernel_rfl) (by kernel_rfl) (fun _ _ _ h => h) (Or.inl ⟨by rfl, ?_⟩) ?_
  rotate_left
  · intro w' hSw
    (try dsimp only at hSw)
    go_simp
    (try with_reducible rfl)
  (try simp only [Act.put, List.setIfInBounds_toArray, List.set_cons_zero, List.set_cons_succ])
  refine wpL_take (i := 16) (v := ?_) rfl (by kernel_rfl) (by kernel_rfl) (by kernel_rfl) (by kernel_rfl) (fun _ _ _ h => h) (Or.inl ⟨by rfl, ?_⟩) (by assumption) ?_
  rotate_left
  · intro w' hSw
    (try dsimp only at hSw)
    go_simp
    (try with_reducible rfl)
  (try simp only [Act.put, List.setIfInBounds_toArray, List.set_cons_zero, List.set_cons_succ])
  refine wpL_pure (i := 18) (v := ?_) rfl (by kernel_rfl) (by kernel_rfl) (by kernel_rfl) (fun _ _ _ h => h) (Or.inl ⟨by rfl, ?_⟩) ?_
  rotate_left
  · intro w' hSw
    (try dsimp only at hSw)
    go_simp
    (try with_reducible rfl)
  (try simp only [Act.put, List.setIfInBounds_toArray, List.set_cons_zero, List.set_cons_succ])
  refine wpL_one (i := 7) (by kernel_rfl) rfl (fun K hK => ?_)
  go_simp
  refine hK _ _ (fun _ _ => ?_) ?_
  · (refine ⟨?_, ?_⟩ <;> go_keep)
  clear hK K
  (try simp only [Act.put, List.setIfInBounds_toArray, List.set_cons_zero, List.set_cons_succ])
  refine wpL_one (i := 17) (by kernel_rfl) rfl (fun K hK => ?_)
  have HB0 := Lib.hid (Blk.new w1 [.int .i64 ((j : Int) + 1)] 3)
  refine step_append_front (B := B) (by rfl) (.tmp 25) (.tmp 34) 74 (by rfl) j0' Try.underlying74 HJ0.out HY0.out HY1.out HY2.out w1.heap.size ((j : Int) + 1) (by rfl) (HB0.out.turn ((Turn.refl (fun _ => False) _).drew) (fun q => q)) HB1.out (by have := HB1.out; simp; omega) rv rl (by rfl) (HROW.out.turn (((Turn.refl (fun _ => False) _).alloc _).drew) (fun _ _ q => q)) HL2.out ?_
  intro v2 w2 hrd hturn hob
  obtain ⟨g2, o2, cap2, rfl⟩ : ∃ g o c, v2 = .slice (some ⟨g, o, none⟩) (rl.length + 1) c := by
    rcases hrd with ⟨_, e⟩ | ⟨g, o, c, cs, e, _⟩
    · cases e
    · exact ⟨g, o, c, e⟩
  have hT2 : Turn (fun _ => False) w1 w2 := Turn.trans (((Turn.refl _ w1).alloc _).drew) hturn (fun _ q => .inl q)
  have HT2 := Lib.hid hT2; have HRD2 := Lib.hid hrd
  have HOB2 := Lib.hid (show ∀ q, (Value.slice (some ⟨g2, o2, none⟩) (rl.length + 1) cap2).ownBlock = some q → w1.heap.size ≤ q from fun q hq => by
    rcases hob q hq with e | e
    · omega
    · simp at e; omega)
  have d7 : w2.cell? ⟨r, 7, none⟩ = some (.slice (some ⟨f, 0, none⟩) W W) := (hT2.cell (a := ⟨r, 7, none⟩) hlt3 (fun q => q)).trans c7
  have dV : w2.cell? ⟨f, a * 3 + c, none⟩ = some rv := (hT2.cell (a := ⟨f, a * 3 + c, none⟩) hlt4 (fun q => q)).trans cV
  have fdV : w2.frozen? ⟨f, a * 3 + c, none⟩ = false := (hT2.frozen (a := ⟨f, a * 3 + c, none⟩) hlt4 (fun q => q)).trans fV
  clear hrd hturn hob hT2 HB0
  refine hK _ _ (fun _ _ => ⟨d7, dV⟩) ?_
  clear hK K HS1
  (try simp only [Act.put, List.setIfInBounds_toArray, List.set_cons_zero, List.set_cons_succ])
  refine wpL_pure (i := 19) (v := ?_) rfl (by kernel_rfl) (by kernel_rfl) (by kernel_rfl) (fun _ _ _ h => h) (Or.inl ⟨by rfl, ?_⟩) ?_
  rotate_left
  · intro w' hSw
    (try dsimp only at hSw)
    go_simp
    (try with_reducible rfl)
  (try simp only [Act.put, List.setIfInBounds_toArray, List.set_cons_zero, List.set_cons_succ])
  refine wpL_one (i := 20) (by kernel_rfl) rfl (fun K hK => ?_)
  go_simp
  refine hK _ _ (fun h _ => absurd (List.mem_singleton.2 rfl) h) ?_
  clear hK K
  refine wpL_done (by kernel_rfl) ?_ _
  (try simp only [Act.put, List.setIfInBounds_toArray, List.set_cons_zero, List.set_cons_succ])
  go_wp2_with fail
  refine bodyPost_ret (v := .tuple #[]) (by simp [results, Try.results42, go_sem]) rfl ?_
  have hs := HD1.out.lies.setFree (o := false) (a := a) (c := c) (by rw [← HW.out]; exact pa) pc (RowK.ofRd HRD2.out (by omega)) (HT2.out.mono (fun _ q => q.elim)) (fun q hq => .inr (HOB2.out q hq))
  rw [← HF.out] at hs
  refine ⟨rfl, L.setV (4 * a + c) (.slice (some ⟨g2, o2, none⟩) (rl.length + 1) cap2), rfl, ?_, ?_, ?_⟩
  · have := HD1.out.setRow hs
    rw [HRL.out] at this ⊢
    exact this
  · exact Turn.setCell (HT1.out.mono (fun _ q => q.elim) |>.trans HT2.out (fun _ q => q.elim)) (.inl (.inr (.inl HF.out))) _
  · exact fun q hq => (RLay.own_setV (n := w.heap.size) (fun q hq => .inr (Nat.le_trans HT1.out.size (HOB2.out q hq))) HKK.out hq)
end

end Go.Proofs.Ytccadafajocbgaa
