/- Layer 1: Live and Free: what is made live or free, and what is told. -/
import Derived.Test.YtccadafajocbgaaMemD
open Go Go.RowKit
namespace Go.Proofs.Ytccadafajocbgaa

/-- l with k places from at_ on turned to v. -/
def fillN {α : Type} (l : List α) (at_ : Nat) (v : α) : Nat → List α
  | 0 => l
  | k + 1 => (fillN l at_ v k).set (at_ + k) v

theorem fillN_length {α : Type} (l : List α) (at_ : Nat) (v : α) (k : Nat) : (fillN l at_ v k).length = l.length := by
  induction k with
  | zero => rfl
  | succ k ih => simp [fillN, ih]

theorem fillN_getD {α : Type} (l : List α) (at_ : Nat) (v d : α) (k i : Nat) (h : at_ + k ≤ l.length) : (fillN l at_ v k).getD i d = if at_ ≤ i ∧ i < at_ + k then v else l.getD i d := by
  induction k with
  | zero => rw [fillN, if_neg (by omega)]
  | succ k ih =>
    have ih := ih (by omega)
    rw [fillN, List.getD_eq_getElem?_getD, List.getElem?_set]
    by_cases e : at_ + k = i
    · rw [if_pos e, if_pos (by rw [fillN_length]; omega), if_pos (by omega)]; rfl
    · rw [if_neg e, ← List.getD_eq_getElem?_getD, ih]
      by_cases h2 : at_ ≤ i ∧ i < at_ + k
      · rw [if_pos h2, if_pos (by omega)]
      · rw [if_neg h2, if_neg (by omega)]

def MemS.fill (s : MemS) (at_ : Nat) (v : Bool) (k : Nat) : MemS := { s with words := fillN s.words at_ 0 k, live := fillN s.live at_ v k }
/-- The error's number of making words live, or free. -/
def MemS.tcode (s : MemS) (at_ n : Int) (v : Bool) : Int :=
  if n < 0 ∨ at_ < 0 ∨ (s.words.length : Int) < at_ ∨ (s.words.length : Int) - at_ < n then 6 else if v ∈ (s.live.drop at_.toNat).take n.toNat then 11 else 0
def MemS.turn (s : MemS) (at_ n : Int) (v : Bool) : MemS := if s.tcode at_ n v = 0 then s.fill at_.toNat v n.toNat else s

theorem turn_out (m a b : Nat) (s : MemS) (at_ n : Int) (v : Bool) (w : World) (hm : IsMem w m a b s) (h : n < 0 ∨ at_ < 0 ∨ (s.words.length : Int) < at_ ∨ (s.words.length : Int) - at_ < n) :
    Calls Try.prog 51 #[.pointer (some ⟨m, 0, none⟩), .int .i64 at_, .int .i64 n, .bool v] w fun e w' => e = .returned (.int .i64 6) ∧ w = w' := by
  have c0 := hm.top.cell 0
  have hr := hm.room
  simp at c0
  clear hm
  by_cases h1 : n < 0
  · clear h
    go_enter Try.func51, Try.ntmps51
    go_wp2
    go_ret
    exact ⟨rfl, rfl⟩
  · by_cases h2 : at_ < 0
    · clear h
      go_enter Try.func51, Try.ntmps51
      go_wp2
      go_ret
      exact ⟨rfl, rfl⟩
    · obtain ⟨k, rfl⟩ : ∃ k : Nat, at_ = k := ⟨at_.toNat, by omega⟩
      by_cases h3 : s.words.length < k
      · clear h
        go_enter Try.func51, Try.ntmps51
        go_wp2
        go_ret
        exact ⟨rfl, rfl⟩
      · have h4 : (s.words.length : Int) - k < n := by omega
        clear h
        go_enter Try.func51, Try.ntmps51
        go_wp2
        go_ret
        exact ⟨rfl, rfl⟩

theorem turn_in (m a b : Nat) (s : MemS) (at_ n : Nat) (v : Bool) (w : World) (hm : IsMem w m a b s) (h1 : at_ ≤ s.words.length) (h2 : n ≤ s.words.length - at_) (hv : v ∈ (s.live.drop at_).take n) :
    Calls Try.prog 51 #[.pointer (some ⟨m, 0, none⟩), .int .i64 at_, .int .i64 n, .bool v] w fun e w' => e = .returned (.int .i64 11) ∧ w = w' := by
  have c0 := hm.top.cell 0
  have c1 := hm.top.cell 1
  have hr := hm.room
  simp at c0 c1
  have HC := Lib.hid (contains_any b at_ n (s.words.length - at_) ((s.live.drop at_).take n) v w (by have := hm.len; simp; omega) (by omega) (fun i hi => by
      rw [hm.cellL (by omega)]; simp [List.getD_eq_getElem?_getD, hi]))
  have h5 : at_ < s.words.length := by
    have := List.length_pos_of_mem hv
    simp at this
    omega
  have HV := Lib.hid hv
  clear hm hv
  have h3 : ¬ (s.words.length : Int) - at_ < n := by omega
  go_enter Try.func51, Try.ntmps51
  go_wp2_with (go_at_call 55; refine HC.out.mono ?_; rintro e w' ⟨rfl, rfl⟩; have HV2 : decide (v ∈ List.take n (List.drop at_ s.live)) = true := decide_eq_true HV.out)
  go_ret
  exact ⟨rfl, rfl⟩

theorem IsM.fill1 {T : TypeId} {w : World} {m a b : Nat} {s : MemS} {at_ k : Nat} {v : Bool} (h : IsM T w m a b (s.fill at_ v k)) :
    IsM T (((w.setCell ⟨b, at_ + k, none⟩ (.bool v))).setCell ⟨a, at_ + k, none⟩ (.int .i64 0)) m a b (s.fill at_ v (k + 1)) := by
  have e1 : (fillN s.words at_ 0 (k + 1)).length = (fillN s.words at_ 0 k).length := by simp [fillN]
  refine ⟨?_, ?_, ?_, h.ma, h.mb, h.ab, ?_, ?_⟩
  · have := (h.top.other (p := ⟨b, at_ + k, none⟩) h.mb (.bool v)).other (p := ⟨a, at_ + k, none⟩) h.ma (.int .i64 0)
    simpa [MemS.fill, e1] using this
  · have := (h.words.other (p := ⟨b, at_ + k, none⟩) h.ab (.bool v)).set (at_ + k) (.int .i64 0)
    simpa [MemS.fill, fillN, List.map_set] using this
  · have := (h.live.set (at_ + k) (.bool v)).other (p := ⟨a, at_ + k, none⟩) (Ne.symm h.ab) (.int .i64 0)
    simpa [MemS.fill, fillN, List.map_set] using this
  · have := h.len
    simpa [MemS.fill, fillN] using this
  · have := h.room
    simpa [MemS.fill, fillN] using this

theorem IsM.fill2 {T : TypeId} {w : World} {m a b : Nat} {s : MemS} {at_ k : Nat} {v : Bool} (h : IsM T w m a b (s.fill at_ v k)) :
    IsM T (((w.setCell ⟨a, at_ + k, none⟩ (.int .i64 0))).setCell ⟨b, at_ + k, none⟩ (.bool v)) m a b (s.fill at_ v (k + 1)) := by
  have e1 : (fillN s.words at_ 0 (k + 1)).length = (fillN s.words at_ 0 k).length := by simp [fillN]
  refine ⟨?_, ?_, ?_, h.ma, h.mb, h.ab, ?_, ?_⟩
  · have := (h.top.other (p := ⟨a, at_ + k, none⟩) h.ma (.int .i64 0)).other (p := ⟨b, at_ + k, none⟩) h.mb (.bool v)
    simpa [MemS.fill, e1] using this
  · have := (h.words.set (at_ + k) (.int .i64 0)).other (p := ⟨b, at_ + k, none⟩) h.ab (.bool v)
    simpa [MemS.fill, fillN, List.map_set] using this
  · have := (h.live.other (p := ⟨a, at_ + k, none⟩) (Ne.symm h.ab) (.int .i64 0)).set (at_ + k) (.bool v)
    simpa [MemS.fill, fillN, List.map_set] using this
  · have := h.len
    simpa [MemS.fill, fillN] using this
  · have := h.room
    simpa [MemS.fill, fillN] using this

theorem turn_ok (m a b : Nat) (s : MemS) (at_ n : Nat) (v : Bool) (w : World) (hm : IsMem w m a b s) (h1 : at_ ≤ s.words.length) (h2 : n ≤ s.words.length - at_) (hv : v ∉ (s.live.drop at_).take n) :
    Calls Try.prog 51 #[.pointer (some ⟨m, 0, none⟩), .int .i64 at_, .int .i64 n, .bool v] w fun e w' => e = .returned (.int .i64 0) ∧ IsMem w' m a b (s.fill at_ v n) ∧ Only [a, b] w w' := by
  have c0 := hm.top.cell 0
  have c1 := hm.top.cell 1
  have hr := hm.room
  simp at c0 c1
  have HC := Lib.hid (contains_any b at_ n (s.words.length - at_) ((s.live.drop at_).take n) v w (by have := hm.len; simp; omega) (by omega) (fun i hi => by
      rw [hm.cellL (by omega)]; simp [List.getD_eq_getElem?_getD, hi]))
  have HC2 := Lib.hid (contains_any b 0 0 0 [] v w rfl (by omega) (fun i hi => absurd hi (by omega)))
  have HM := Lib.hid hm
  have HV := Lib.hid hv
  clear hm hv
  have h3 : ¬ (s.words.length : Int) - at_ < n := by omega
  by_cases h5 : at_ < s.words.length
  · go_enter Try.func51, Try.ntmps51
    go_wp2_with (go_at_call 55; refine HC.out.mono ?_; rintro e w' ⟨rfl, rfl⟩; have HV2 : decide (v ∈ List.take n (List.drop at_ s.live)) = false := decide_eq_false HV.out)
    go_loopw [9] (fun t wr => ∃ k : Nat, k ≤ n ∧ t = .int .i64 (at_ + k : Nat) ∧ IsMem wr m a b (s.fill at_ v k) ∧ Only [a, b] w wr) (fun t _ => at_ + n - (intOf t).toNat)
    case atStart => exact ⟨0, by omega, rfl, HM.out, Only.refl _ _⟩
    case round =>
      obtain ⟨k, hk, rfl, hm1, ho1⟩ := hrel
      by_cases hlt : k < n
      · have d0 := hm1.top.cell 0
        have d1 := hm1.top.cell 1
        simp [MemS.fill, fillN_length] at d0 d1
        have d2 := hm1.cell (i := at_ + k) (by simp [MemS.fill, fillN_length]; omega)
        have d3 := hm1.cellL (i := at_ + k) (by simp [MemS.fill, fillN_length]; omega)
        generalize (s.fill at_ v k).words.getD (at_ + k) 0 = u1 at d2
        generalize (s.fill at_ v k).live.getD (at_ + k) false = u2 at d3
        have f2 := hm1.words.free (at_ + k)
        have f3 := hm1.live.free (at_ + k)
        have nab := hm1.ab
        have HM1 := Lib.hid hm1
        have HO1 := Lib.hid ho1
        clear hm1 ho1
        have hi : at_ + k < s.words.length := by omega
        have hi2 : at_ + k < at_ + n := by omega
        generalize hj : at_ + k = j at *
        have HJ := Lib.hid hj
        clear hj
        go_wp2
        go_region
        all_goals go_wp2
        go_roundw
        case rel =>
          have e := HJ.out
          subst e
          exact ⟨k + 1, by omega, by go_num, HM1.out.fill1.drew, ((HO1.out.setCell (by simp) _).setCell (by simp) _).drew⟩
        case measure => simp [intOf]; omega
      · obtain rfl : k = n := by omega
        have HM1 := Lib.hid hm1
        have HO1 := Lib.hid ho1
        clear hm1 ho1
        go_wp2
        go_ret
        exact ⟨rfl, HM1.out, HO1.out⟩
  · have h6 : at_ = s.words.length := by omega
    obtain rfl : n = 0 := by omega
    subst h6
    go_enter Try.func51, Try.ntmps51
    go_wp2_with (go_at_call 55; refine HC2.out.mono ?_; rintro e w' ⟨rfl, rfl⟩)
    refine wp_loop_once ?_
    go_wp2
    go_ret
    exact ⟨rfl, HM.out, Only.refl _ _⟩

theorem turn_any (m a b : Nat) (s : MemS) (at_ n : Int) (v : Bool) (w : World) (hm : IsMem w m a b s) :
    Calls Try.prog 51 #[.pointer (some ⟨m, 0, none⟩), .int .i64 at_, .int .i64 n, .bool v] w fun e w' => e = .returned (.int .i64 (s.tcode at_ n v)) ∧ IsMem w' m a b (s.turn at_ n v) ∧ Only [m, a, b] w w' := by
  unfold MemS.turn
  by_cases h : n < 0 ∨ at_ < 0 ∨ (s.words.length : Int) < at_ ∨ (s.words.length : Int) - at_ < n
  · have e : s.tcode at_ n v = 6 := by rw [MemS.tcode, if_pos h]
    rw [e]
    refine (turn_out m a b s at_ n v w hm h).mono ?_
    rintro e w' ⟨rfl, rfl⟩
    exact ⟨rfl, hm, Only.refl _ _⟩
  · obtain ⟨i, rfl⟩ : ∃ i : Nat, at_ = i := ⟨at_.toNat, by omega⟩
    obtain ⟨k, rfl⟩ : ∃ k : Nat, n = k := ⟨n.toNat, by omega⟩
    by_cases hv : v ∈ (s.live.drop i).take k
    · have e : s.tcode i k v = 11 := by rw [MemS.tcode, if_neg h]; exact if_pos hv
      rw [e]
      refine (turn_in m a b s i k v w hm (by omega) (by omega) hv).mono ?_
      rintro e w' ⟨rfl, rfl⟩
      exact ⟨rfl, hm, Only.refl _ _⟩
    · have e : s.tcode i k v = 0 := by rw [MemS.tcode, if_neg h]; exact if_neg hv
      rw [e]
      refine (turn_ok m a b s i k v w hm (by omega) (by omega) hv).mono ?_
      rintro e w' ⟨rfl, h1, h2⟩
      exact ⟨rfl, h1, h2.mono (by simp)⟩

theorem turn_nil (at_ n : Int) (v : Bool) (w : World) :
    Calls Try.prog 51 #[.pointer none, .int .i64 at_, .int .i64 n, .bool v] w fun e w' => e = .returned (.int .i64 11) ∧ w = w' := by
  go_enter Try.func51, Try.ntmps51
  go_wp2
  go_ret
  exact ⟨rfl, rfl⟩

theorem live_any (m a b : Nat) (s : MemS) (at_ n : Int) (w : World) (hm : IsMem w m a b s) :
    Calls Try.prog 31 #[.pointer (some ⟨m, 0, none⟩), .int .i64 at_, .int .i64 n] w fun e w' => e = .returned (.int .i64 (s.tcode at_ n true)) ∧ IsMem w' m a b (s.turn at_ n true) ∧ Only [m, a, b] w w' := by
  have H := Lib.hid (turn_any m a b s at_ n true w hm); clear hm
  go_enter Try.func31, Try.ntmps31
  go_wp2_with (go_at_call 51; refine H.out.mono ?_; rintro e w1 ⟨rfl, h1, h2⟩; have H1 := Lib.hid h1; have H2 := Lib.hid h2; clear h1 h2)
  go_ret
  exact ⟨rfl, H1.out, H2.out⟩

theorem free_any (m a b : Nat) (s : MemS) (at_ n : Int) (w : World) (hm : IsMem w m a b s) :
    Calls Try.prog 40 #[.pointer (some ⟨m, 0, none⟩), .int .i64 at_, .int .i64 n] w fun e w' => e = .returned (.int .i64 (s.tcode at_ n false)) ∧ IsMem w' m a b (s.turn at_ n false) ∧ Only [m, a, b] w w' := by
  have H := Lib.hid (turn_any m a b s at_ n false w hm); clear hm
  go_enter Try.func40, Try.ntmps40
  go_wp2_with (go_at_call 51; refine H.out.mono ?_; rintro e w1 ⟨rfl, h1, h2⟩; have H1 := Lib.hid h1; have H2 := Lib.hid h2; clear h1 h2)
  go_ret
  exact ⟨rfl, H1.out, H2.out⟩

end Go.Proofs.Ytccadafajocbgaa
