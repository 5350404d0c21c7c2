/- Layer 1: what Swap and Add do to a memory that reads as a given one. -/
import Derived.Test.YtlogmfpnjpamgaaMemB
open Go Go.RowKit
namespace Go.Proofs.Ytlogmfpnjpamgaa

theorem swap1_hit (p q r u : Addr) (was n : Int) (o : Value) (w : World) (hp : w.cell? p = some (.int .i64 was)) (hf : w.frozen? p = false) (hq : w.cell? q = some (.int .i64 was)) (hr : w.cell? r = some o) (hr' : w.frozen? r = false)
    (hpr : (w.setCell r (.bool true)).cell? p = some (.int .i64 was)) (hur : (w.setCell r (.bool true)).cell? u = some (.int .i64 n)) :
    Calls Try.prog 84 #[.pointer (some p), .pointer (some q), .pointer (some r), .pointer (some u)] w fun e w' => e = .returned (.tuple #[]) ∧ (((w.setCell r (.bool true)).setCell p (.int .i64 n)).drew) = w' := by
  go_enter Try.func84, Try.ntmps84
  go_wp2
  go_region
  all_goals go_wp2
  all_goals (go_end0; exact ⟨rfl, rfl⟩)

theorem swap1_miss (p q r u : Addr) (x was : Int) (o : Value) (w : World) (hp : w.cell? p = some (.int .i64 x)) (hq : w.cell? q = some (.int .i64 was)) (hx : (x == was) = false) (hr : w.cell? r = some o) (hr' : w.frozen? r = false) :
    Calls Try.prog 84 #[.pointer (some p), .pointer (some q), .pointer (some r), .pointer (some u)] w fun e w' => e = .returned (.tuple #[]) ∧ ((w.setCell r (.bool false)).drew) = w' := by
  go_enter Try.func84, Try.ntmps84
  go_wp2
  go_region
  all_goals go_wp2
  all_goals (go_end0; exact ⟨rfl, rfl⟩)


theorem step_mem (m a b : Nat) (s s' : MemS) (k : Nat) (f : FuncId) (cap : Array Value) (w : World) (R : World → Prop) (hcf : ∀ args w, Sem.run Try.prog (callFunc f args) w = .ok (.enter f args) w) (hm : IsMem w m a b s) (hk : k < s.words.length) (hl : s.live.getD k false = true)
    (hs : s'.steps = s.steps) (hw : s'.words.length = s.words.length) (hR : ∀ w' v, R w' → R (w'.setCell ⟨m, 2, none⟩ v))
    (hf : Calls Try.prog f (#[.pointer (some ⟨a, k, none⟩)] ++ cap) w fun e w' => e = .returned (.tuple #[]) ∧ IsMem w' m a b s' ∧ R w') :
    Calls Try.prog 40 #[.pointer (some ⟨m, 0, none⟩), .int .i64 k, .func (.func f) #[] cap] w fun e w' => e = .returned (.int .i64 0) ∧ IsMem w' m a b s'.tick ∧ R w' := by
  refine (step_any m a b s k f cap w (fun _ w' => IsMem w' m a b s' ∧ R w') hcf hm hk hl (hf.mono ?_)).mono ?_
  · rintro e w' ⟨rfl, h1, h2⟩
    exact ⟨rfl, by have := h1.top; rw [hs, hw] at this; exact this, h1, h2⟩
  · rintro e w' ⟨rfl, w1, ⟨h1, h2⟩, rfl⟩
    exact ⟨rfl, hs ▸ h1.tick, hR _ _ h2⟩

theorem swap_any (m a b : Nat) (s : MemS) (at_ was n : Int) (w : World) (hm : IsMem w m a b s) :
    Calls Try.prog 81 #[.pointer (some ⟨m, 0, none⟩), .int .i64 at_, .int .i64 was, .int .i64 n] w fun e w' => e = .returned (.tuple #[.bool (s.hit at_ was), .int .i64 (s.code at_)]) ∧ IsMem w' m a b (s.swap at_ was n) ∧ Only [m, a, b] w w' := by
  have hmm := hm.top.lt
  have haa := hm.words.lt
  have hbb := hm.live.lt
  by_cases hc : s.code at_ = 0
  · obtain ⟨k, rfl, hk, hl⟩ := MemS.code_zero hc
    have H : Hid (∀ w3, IsMem w3 m a b s → Blk w3 w.heap.size [.int .i64 was] 2 → Blk w3 (w.heap.size + 1) [.int .i64 n] 2 → Blk w3 (w.heap.size + 1 + 1) [.bool false] 4 → Only [m, a, b] w w3 →
        Calls Try.prog 40 #[.pointer (some ⟨m, 0, none⟩), .int .i64 k, .func (.func 84) #[] #[.pointer (some ⟨w.heap.size, 0, none⟩), .pointer (some ⟨w.heap.size + 1 + 1, 0, none⟩), .pointer (some ⟨w.heap.size + 1, 0, none⟩)]] w3
          fun e w' => e = .returned (.int .i64 0) ∧ IsMem w' m a b (s.swap k was n) ∧ Blk w' (w.heap.size + 1 + 1) [.bool (s.hit k was)] 4 ∧ Only [m, a, b] w w') := by
      intro w3 hm3 hq hu hr ho
      have e1 : s.swap k was n = (if s.words.getD k 0 == was then s.put k n else s).tick := by rw [MemS.swap, if_pos hc, Int.toNat_natCast]
      have e2 : s.hit k was = (s.words.getD k 0 == was) := by rw [MemS.hit, hc, Int.toNat_natCast]; rfl
      rw [e1, e2]
      by_cases hh : s.words.getD k 0 = was
      · rw [if_pos (by simpa using hh), show (s.words.getD k 0 == was) = true from by simpa using hh]
        refine step_mem m a b s (s.put k n) k _ _ w3 (fun w' => Blk w' (w.heap.size + 1 + 1) [.bool true] 4 ∧ Only [m, a, b] w w') enters_Swap1 hm3 hk hl rfl (by simp [MemS.put]) ?_ ?_
        · exact fun w' v h => ⟨h.1.other (by show w.heap.size + 1 + 1 ≠ m; omega) _, h.2.setCell (by simp) _⟩
        · have hm4 := hm3.other (p := ⟨w.heap.size + 1 + 1, 0, none⟩) (by show m ≠ w.heap.size + 1 + 1; omega) (by show a ≠ w.heap.size + 1 + 1; omega) (by show b ≠ w.heap.size + 1 + 1; omega) (.bool true)
          refine (swap1_hit ⟨a, k, none⟩ _ ⟨w.heap.size + 1 + 1, 0, none⟩ _ was n (.bool false) w3 (hh ▸ hm3.cell hk) (hm3.words.free _) (hq.cell 0) (hr.cell 0) (hr.free 0) (hh ▸ hm4.cell hk) ((hu.other (by simp) _).cell 0)).mono ?_
          rintro e w' ⟨rfl, rfl⟩
          exact ⟨rfl, ⟨(hm4.put k n).top, (hm4.put k n).words, (hm4.put k n).live, hm.ma, hm.mb, hm.ab, (hm4.put k n).len, (hm4.put k n).room⟩, ((hr.set 0 _).other (by show w.heap.size + 1 + 1 ≠ a; omega) _).drew, ((ho.setNew (by show w.heap.size ≤ w.heap.size + 1 + 1; omega) _).setCell (by simp) _).drew⟩
      · have hx : (s.words.getD k 0 == was) = false := by simpa using hh
        rw [hx, if_neg (by simp)]
        refine step_mem m a b s s k _ _ w3 (fun w' => Blk w' (w.heap.size + 1 + 1) [.bool false] 4 ∧ Only [m, a, b] w w') enters_Swap1 hm3 hk hl rfl rfl ?_ ?_
        · exact fun w' v h => ⟨h.1.other (by show w.heap.size + 1 + 1 ≠ m; omega) _, h.2.setCell (by simp) _⟩
        · have hm4 := hm3.other (p := ⟨w.heap.size + 1 + 1, 0, none⟩) (by show m ≠ w.heap.size + 1 + 1; omega) (by show a ≠ w.heap.size + 1 + 1; omega) (by show b ≠ w.heap.size + 1 + 1; omega) (.bool false)
          refine (swap1_miss ⟨a, k, none⟩ _ ⟨w.heap.size + 1 + 1, 0, none⟩ _ _ was (.bool false) w3 (hm3.cell hk) (hq.cell 0) hx (hr.cell 0) (hr.free 0)).mono ?_
          rintro e w' ⟨rfl, rfl⟩
          exact ⟨rfl, ⟨hm4.top, hm4.words, hm4.live, hm.ma, hm.mb, hm.ab, hm.len, hm.room⟩, (hr.set 0 _).drew, (ho.setNew (by show w.heap.size ≤ w.heap.size + 1 + 1; omega) _).drew⟩
    have HM := Lib.hid hm
    have HC := Lib.hid hc
    clear hm hk hl hc
    go_enter Try.func81, Try.ntmps81
    go_wp2_with (go_at_call 40; refine (H.out _ (((HM.out.alloc _).alloc _).alloc _) (((Blk.new _ _ _).alloc _).alloc _) (by simpa using (Blk.new (w.alloc _) _ _).alloc _) (by simpa using Blk.new ((w.alloc _).alloc _) _ _) ((((Only.refl _ _).alloc _).alloc _).alloc _)).mono ?_; rintro e w1 ⟨rfl, hm1, hb1, ho1⟩; have d0 := hb1.cell 0; have d1 := hb1.free 0; simp at d0; have HM1 := Lib.hid hm1; have HB1 := Lib.hid hb1; have HO1 := Lib.hid ho1; clear hm1 hb1 ho1)
    refine bodyPost_ret (v := .tuple #[.bool (s.hit k was), .int .i64 0]) (by have d2 := set_same d0 (.bool (s.hit k was)); simp [results, Try.results81, go_sem, d2]) rfl ⟨by rw [HC.out], ?_, ?_⟩
    · exact HM1.out.other (by show m ≠ w.heap.size + 1 + 1; omega) (by show a ≠ w.heap.size + 1 + 1; omega) (by show b ≠ w.heap.size + 1 + 1; omega) _
    · exact HO1.out.setNew (by show w.heap.size ≤ w.heap.size + 1 + 1; omega) _
  · have H : Hid (∀ w3 f, IsMem w3 m a b s → Calls Try.prog 40 #[.pointer (some ⟨m, 0, none⟩), .int .i64 at_, f] w3 fun e w' => e = .returned (.int .i64 (s.code at_)) ∧ w3 = w') :=
      fun w3 f h => step_bad m a b s at_ f w3 h hc
    have HM := Lib.hid hm
    have HC := Lib.hid hc
    clear hm hc
    go_enter Try.func81, Try.ntmps81
    go_wp2_with (go_at_call 40; refine (H.out _ _ (((HM.out.alloc _).alloc _).alloc _)).mono ?_; rintro e w1 ⟨rfl, rfl⟩)
    refine bodyPost_ret (v := .tuple #[.bool false, .int .i64 (s.code at_)]) (by simp [results, Try.results81, go_sem]) rfl ⟨?_, ?_, ?_⟩
    · rw [MemS.hit, decide_eq_false HC.out]; rfl
    · rw [MemS.swap, if_neg HC.out]
      exact ((HM.out.alloc _).alloc _).alloc _
    · exact (((Only.refl _ _).alloc _).alloc _).alloc _




end Go.Proofs.Ytlogmfpnjpamgaa
