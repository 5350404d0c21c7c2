/- Layer 1: the steps: what Load, Store, Swap, Add do to a memory that reads as a given one. -/
import Derived.Test.YtccadafajocbgaaMemA
open Go Go.RowKit
namespace Go.Proofs.Ytccadafajocbgaa

theorem getElem?_map_int (l : List Int) (i : Nat) (h : i < l.length) : (l.map (Value.int .i64))[i]? = some (.int .i64 (l.getD i 0)) := by
  simp [List.getD_eq_getElem?_getD, List.getElem?_eq_getElem h]
theorem getElem?_map_bool (l : List Bool) (i : Nat) (h : i < l.length) : (l.map Value.bool)[i]? = some (.bool (l.getD i false)) := by
  simp [List.getD_eq_getElem?_getD, List.getElem?_eq_getElem h]

theorem IsM.cell {T : TypeId} {w : World} {m a b : Nat} {s : MemS} (h : IsM T w m a b s) {i : Nat} (hi : i < s.words.length) : w.cell? ⟨a, i, none⟩ = some (.int .i64 (s.words.getD i 0)) := by
  rw [h.words.cell, getElem?_map_int _ _ hi]
theorem IsM.cellL {T : TypeId} {w : World} {m a b : Nat} {s : MemS} (h : IsM T w m a b s) {i : Nat} (hi : i < s.words.length) : w.cell? ⟨b, i, none⟩ = some (.bool (s.live.getD i false)) := by
  rw [h.live.cell, getElem?_map_bool _ _ (by rw [h.len]; exact hi)]


/-- The error's number of a step on a word. -/
def MemS.code (s : MemS) (at_ : Int) : Int := if at_ < 0 ∨ (s.words.length : Int) ≤ at_ then 6 else if s.live.getD at_.toNat false = true then 0 else 7
/-- One more step is counted. -/
def MemS.tick (s : MemS) : MemS := { s with steps := wrap64 (s.steps + 1) }
def MemS.word (s : MemS) (at_ : Int) : Int := if s.code at_ = 0 then s.words.getD at_.toNat 0 else 0
def MemS.put (s : MemS) (at_ n : Int) : MemS := { s with words := s.words.set at_.toNat n }
def MemS.load (s : MemS) (at_ : Int) : MemS := if s.code at_ = 0 then s.tick else s
def MemS.store (s : MemS) (at_ n : Int) : MemS := if s.code at_ = 0 then (s.put at_ n).tick else s
def MemS.hit (s : MemS) (at_ was : Int) : Bool := decide (s.code at_ = 0) && (s.words.getD at_.toNat 0 == was)
def MemS.swap (s : MemS) (at_ was n : Int) : MemS := if s.code at_ = 0 then (if s.words.getD at_.toNat 0 == was then s.put at_ n else s).tick else s
def MemS.sum (s : MemS) (at_ n : Int) : Int := if s.code at_ = 0 then wrap64 (s.words.getD at_.toNat 0 + n) else 0
def MemS.add (s : MemS) (at_ n : Int) : MemS := if s.code at_ = 0 then (s.put at_ (s.sum at_ n)).tick else s

theorem MemS.code_zero {s : MemS} {at_ : Int} (h : s.code at_ = 0) : ∃ k : Nat, at_ = k ∧ k < s.words.length ∧ s.live.getD k false = true := by
  unfold MemS.code at h
  by_cases h1 : at_ < 0 ∨ (s.words.length : Int) ≤ at_
  · rw [if_pos h1] at h; omega
  · rw [if_neg h1] at h
    by_cases h2 : s.live.getD at_.toNat false = true
    · exact ⟨at_.toNat, by omega, by omega, h2⟩
    · rw [if_neg h2] at h; omega

theorem MemS.code_at {s : MemS} {k : Nat} (hk : k < s.words.length) (hl : s.live.getD k false = true) : s.code k = 0 := by
  unfold MemS.code
  rw [if_neg (by omega), if_pos (by simpa using hl)]

theorem IsM.tick {T : TypeId} {w : World} {m a b : Nat} {s : MemS} (h : IsM T w m a b s) : IsM T (w.setCell ⟨m, 2, none⟩ (.int .i64 (wrap64 (s.steps + 1)))) m a b s.tick :=
  ⟨h.top.set 2 _, h.words.other (Ne.symm h.ma) _, h.live.other (Ne.symm h.mb) _, h.ma, h.mb, h.ab, h.len, h.room⟩
theorem IsM.put {T : TypeId} {w : World} {m a b : Nat} {s : MemS} (h : IsM T w m a b s) (k : Nat) (n : Int) : IsM T (w.setCell ⟨a, k, none⟩ (.int .i64 n)) m a b (s.put k n) := by
  refine ⟨?_, ?_, h.live.other (Ne.symm h.ab) _, h.ma, h.mb, h.ab, by simpa [MemS.put] using h.len, by simpa [MemS.put] using h.room⟩
  · simpa [MemS.put] using h.top.other h.ma _
  · have := h.words.set k (.int .i64 n); simpa [MemS.put, List.map_set] using this
theorem IsM.only {T : TypeId} {S : List Nat} {w w' : World} {m a b : Nat} {s : MemS} (h : IsM T w m a b s) (ho : Only S w w') (hm : m ∉ S) (ha : a ∉ S) (hb : b ∉ S) : IsM T w' m a b s :=
  ⟨h.top.only ho hm, h.words.only ho ha, h.live.only ho hb, h.ma, h.mb, h.ab, h.len, h.room⟩
theorem IsM.alloc {T : TypeId} {w : World} {m a b : Nat} {s : MemS} (h : IsM T w m a b s) (o : Obj) : IsM T (w.alloc o) m a b s :=
  ⟨h.top.alloc o, h.words.alloc o, h.live.alloc o, h.ma, h.mb, h.ab, h.len, h.room⟩
theorem IsM.other {T : TypeId} {w : World} {m a b : Nat} {s : MemS} (h : IsM T w m a b s) {p : Addr} (hm : m ≠ p.block) (ha : a ≠ p.block) (hb : b ≠ p.block) (v : Value) : IsM T (w.setCell p v) m a b s :=
  ⟨h.top.other hm v, h.words.other ha v, h.live.other hb v, h.ma, h.mb, h.ab, h.len, h.room⟩

theorem IsM.drew {T : TypeId} {w : World} {m a b : Nat} {s : MemS} (h : IsM T w m a b s) : IsM T w.drew m a b s :=
  ⟨h.top, h.words, h.live, h.ma, h.mb, h.ab, h.len, h.room⟩

theorem step_any (m a b : Nat) (s : MemS) (k : Nat) (f : FuncId) (cap : Array Value) (w : World) (R : Ending → World → Prop) (hcf : ∀ args w, Sem.run Try.prog (callFunc f args) w = .ok (.enter f args) w) (hm : IsMem w m a b s) (hk : k < s.words.length) (hl : s.live.getD k false = true)
    (hf : Calls Try.prog f (#[.pointer (some ⟨a, k, none⟩)] ++ cap) w fun e w' => e = .returned (.tuple #[]) ∧ Blk w' m [.slice (some ⟨a, 0, none⟩) s.words.length s.words.length, .slice (some ⟨b, 0, none⟩) s.words.length s.words.length, .int .i64 s.steps] 66 ∧ R e w') :
    Calls Try.prog 48 #[.pointer (some ⟨m, 0, none⟩), .int .i64 k, .func (.func f) #[] cap] w fun e w' => e = .returned (.int .i64 0) ∧ ∃ w1, R (.returned (.tuple #[])) w1 ∧ w' = w1.setCell ⟨m, 2, none⟩ (.int .i64 (wrap64 (s.steps + 1))) := by
  have c0 := hm.top.cell 0
  have c1 := hm.top.cell 1
  have c2 := hm.top.cell 2
  have cl := hm.cellL hk
  rw [hl] at cl
  have hr := hm.room
  simp at c0 c1 c2
  have HF := Lib.hid hf
  clear hm hf hl
  go_enter Try.func48, Try.ntmps48
  go_wp2_with (refine HF.out.mono ?_; rintro e w1 ⟨rfl, hb, hr1⟩; have d0 := hb.cell 2; have d1 := hb.cell 0; have d2 := hb.free 2; simp at d0 d1; have HR := Lib.hid hr1; have HB := Lib.hid hb; clear hr1 hb)
  go_ret
  exact ⟨rfl, _, HR.out, rfl⟩

theorem step_bad (m a b : Nat) (s : MemS) (at_ : Int) (f : Value) (w : World) (hm : IsMem w m a b s) (hc : s.code at_ ≠ 0) :
    Calls Try.prog 48 #[.pointer (some ⟨m, 0, none⟩), .int .i64 at_, f] w fun e w' => e = .returned (.int .i64 (s.code at_)) ∧ w = w' := by
  have c0 := hm.top.cell 0
  have c1 := hm.top.cell 1
  have hr := hm.room
  simp at c0 c1
  unfold MemS.code at hc ⊢
  by_cases h1 : at_ < 0 ∨ (s.words.length : Int) ≤ at_
  · rw [if_pos h1]
    have HC := Lib.hid hc; clear hc
    have HM := Lib.hid hm; clear hm
    rcases h1 with h1 | h1
    · go_enter Try.func48, Try.ntmps48
      go_wp2
      go_ret
      exact ⟨rfl, rfl⟩
    · have h0 : ¬ at_ < 0 := by omega
      go_enter Try.func48, Try.ntmps48
      go_wp2
      go_ret
      exact ⟨rfl, rfl⟩
  · rw [if_neg h1] at hc ⊢
    obtain ⟨k, rfl⟩ : ∃ k : Nat, at_ = k := ⟨at_.toNat, by omega⟩
    rw [Int.toNat_natCast] at hc ⊢
    by_cases h2 : s.live.getD k false = true
    · rw [if_pos h2] at hc; exact absurd rfl hc
    · rw [if_neg h2]
      have hk : k < s.words.length := by omega
      have cl := hm.cellL hk
      rw [eq_false_of_ne_true h2] at cl
      have HM := Lib.hid hm; clear hm hc h1 h2
      go_enter Try.func48, Try.ntmps48
      go_wp2
      go_ret
      exact ⟨rfl, rfl⟩

theorem step_nil (at_ : Value) (f : Value) (w : World) :
    Calls Try.prog 48 #[.pointer none, at_, f] w fun e w' => e = .returned (.int .i64 11) ∧ w = w' := by
  go_enter Try.func48, Try.ntmps48
  go_wp2
  go_ret
  exact ⟨rfl, rfl⟩

theorem enters_Load1 (args : Array Value) (w : World) : Sem.run Try.prog (callFunc 50 args) w = .ok (.enter 50 args) w := by kernel_rfl
theorem enters_Store1 (args : Array Value) (w : World) : Sem.run Try.prog (callFunc 49 args) w = .ok (.enter 49 args) w := by kernel_rfl

theorem load1_any (p q : Addr) (u : Value) (n : Int) (w : World) (hp : w.cell? p = some (.int .i64 n)) (hq : w.cell? q = some u) (hf : w.frozen? q = false) :
    Calls Try.prog 50 #[.pointer (some p), .pointer (some q)] w fun e w' => e = .returned (.tuple #[]) ∧ w.setCell q (.int .i64 n) = w' := by
  go_enter Try.func50, Try.ntmps50
  go_wp2
  go_end0
  exact ⟨rfl, rfl⟩

theorem store1_any (p q : Addr) (u : Value) (n : Int) (w : World) (hp : w.cell? p = some u) (hf : w.frozen? p = false) (hq : w.cell? q = some (.int .i64 n)) :
    Calls Try.prog 49 #[.pointer (some p), .pointer (some q)] w fun e w' => e = .returned (.tuple #[]) ∧ w.setCell p (.int .i64 n) = w' := by
  go_enter Try.func49, Try.ntmps49
  go_wp2
  go_end0
  exact ⟨rfl, rfl⟩

theorem load_any (m a b : Nat) (s : MemS) (at_ : Int) (w : World) (hm : IsMem w m a b s) :
    Calls Try.prog 28 #[.pointer (some ⟨m, 0, none⟩), .int .i64 at_] w fun e w' => e = .returned (.tuple #[.int .i64 (s.word at_), .int .i64 (s.code at_)]) ∧ IsMem w' m a b (s.load at_) ∧ Only [m, a, b] w w' := by
  by_cases hc : s.code at_ = 0
  · obtain ⟨k, rfl, hk, hl⟩ := MemS.code_zero hc
    have hmm := hm.top.lt
    have haa := hm.words.lt
    have hbb := hm.live.lt
    have H := Lib.hid (step_any m a b s k 50 #[.pointer (some ⟨w.heap.size, 0, none⟩)] (w.alloc (.cells #[.int .i64 0] 2)) (fun _ w' => (w.alloc (.cells #[.int .i64 0] 2)).setCell ⟨w.heap.size, 0, none⟩ (.int .i64 (s.words.getD k 0)) = w') enters_Load1 (hm.alloc _) hk hl
      ((load1_any _ _ (.int .i64 0) (s.words.getD k 0) _ ((hm.alloc _).cell hk) (by simp) (by simp)).mono fun e w' h => ⟨h.1, h.2 ▸ (hm.alloc _).top.other (by show m ≠ w.heap.size; omega) _, h.2⟩))
    have HM := Lib.hid hm
    have HK := Lib.hid hk
    have HC := Lib.hid hc
    have HL := Lib.hid hl
    clear hm hk hl hc
    go_enter Try.func28, Try.ntmps28
    go_wp2_with (go_at_call 48; refine H.out.mono ?_; rintro e w1 ⟨rfl, w2, rfl, rfl⟩)
    refine bodyPost_ret (v := .tuple #[.int .i64 (s.words.getD k 0), .int .i64 0]) (by simp [results, Try.results28, go_sem]) rfl ⟨?_, ?_, ?_⟩
    · rw [MemS.word, if_pos HC.out, HC.out, Int.toNat_natCast]
    · rw [MemS.load, if_pos HC.out]
      exact HM.out.tick.alloc _
    · exact ((Only.refl _ _).setCell (by simp) _).alloc _
  · have hmm := hm.top.lt
    have H := Lib.hid (step_bad m a b s at_ (.func (.func 50) #[] #[.pointer (some ⟨w.heap.size, 0, none⟩)]) (w.alloc (.cells #[.int .i64 0] 2)) (hm.alloc _) hc)
    have HM := Lib.hid hm
    have HC := Lib.hid hc
    clear hm hc
    go_enter Try.func28, Try.ntmps28
    go_wp2_with (go_at_call 48; refine H.out.mono ?_; rintro e w1 ⟨rfl, rfl⟩)
    refine bodyPost_ret (v := .tuple #[.int .i64 0, .int .i64 (s.code at_)]) (by simp [results, Try.results28, go_sem]) rfl ⟨?_, ?_, ?_⟩
    · rw [MemS.word, if_neg HC.out]
    · rw [MemS.load, if_neg HC.out]
      exact HM.out.alloc _
    · exact (Only.refl _ _).alloc _

theorem store_any (m a b : Nat) (s : MemS) (at_ n : Int) (w : World) (hm : IsMem w m a b s) :
    Calls Try.prog 27 #[.pointer (some ⟨m, 0, none⟩), .int .i64 at_, .int .i64 n] w fun e w' => e = .returned (.int .i64 (s.code at_)) ∧ IsMem w' m a b (s.store at_ n) ∧ Only [m, a, b] w w' := by
  by_cases hc : s.code at_ = 0
  · obtain ⟨k, rfl, hk, hl⟩ := MemS.code_zero hc
    have hmm := hm.top.lt
    have haa := hm.words.lt
    have hbb := hm.live.lt
    have H := Lib.hid (step_any m a b s k 49 #[.pointer (some ⟨w.heap.size, 0, none⟩)] (w.alloc (.cells #[.int .i64 n] 2)) (fun _ w' => (w.alloc (.cells #[.int .i64 n] 2)).setCell ⟨a, k, none⟩ (.int .i64 n) = w') enters_Store1 (hm.alloc _) hk hl
      ((store1_any _ _ (.int .i64 (s.words.getD k 0)) n _ ((hm.alloc _).cell hk) ((hm.alloc _).words.free _) (by simp)).mono fun e w' h => ⟨h.1, h.2 ▸ (hm.alloc _).top.other hm.ma _, h.2⟩))
    have HM := Lib.hid hm
    have HK := Lib.hid hk
    have HC := Lib.hid hc
    have HL := Lib.hid hl
    clear hm hk hl hc
    go_enter Try.func27, Try.ntmps27
    go_wp2_with (go_at_call 48; refine H.out.mono ?_; rintro e w1 ⟨rfl, w2, rfl, rfl⟩)
    go_ret
    refine ⟨by rw [HC.out]; rfl, ?_, ?_⟩
    · rw [MemS.store, if_pos HC.out]
      exact ((HM.out.put k n).tick).alloc _
    · exact (((Only.refl _ _).setCell (by simp) _).setCell (by simp) _).alloc _
  · have hmm := hm.top.lt
    have H := Lib.hid (step_bad m a b s at_ (.func (.func 49) #[] #[.pointer (some ⟨w.heap.size, 0, none⟩)]) (w.alloc (.cells #[.int .i64 n] 2)) (hm.alloc _) hc)
    have HM := Lib.hid hm
    have HC := Lib.hid hc
    clear hm hc
    go_enter Try.func27, Try.ntmps27
    go_wp2_with (go_at_call 48; refine H.out.mono ?_; rintro e w1 ⟨rfl, rfl⟩)
    go_ret
    refine ⟨rfl, ?_, ?_⟩
    · rw [MemS.store, if_neg HC.out]
      exact HM.out.alloc _
    · exact (Only.refl _ _).alloc _

end Go.Proofs.Ytccadafajocbgaa
