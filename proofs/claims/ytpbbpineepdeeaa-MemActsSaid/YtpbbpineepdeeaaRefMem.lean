/- Layer 1's reference: what its New, Turn, Wrong do to a memory that reads as a given one. -/
import Derived.Test.YtpbbpineepdeeaaMemF
import Derived.Test.YtpbbpineepdeeaaMemG
open Go Go.RowKit
namespace Go.Proofs.Ytpbbpineepdeeaa

/-- The document's memory. -/
abbrev IsRef := IsM 51

def NewRef (n : Nat) (w : World) (e : Ending) (w' : World) : Prop :=
  ∃ m a b, e = .returned (.pointer (some ⟨m, 0, none⟩)) ∧ IsRef w' m a b (MemS.fresh n) ∧ w.heap.size ≤ m ∧ w.heap.size ≤ a ∧ w.heap.size ≤ b ∧ Only [] w w'

theorem rnew_ab (n : Nat) (w : World) (hn : n ≤ 65536) : NewRef n w (.returned (.pointer (some ⟨w.heap.size + 1 + 1, 0, none⟩)))
    (((w.alloc (Obj.cells (Array.replicate n (Value.int IntKind.i64 0)) 2)).alloc (Obj.cells (Array.replicate n (Value.bool false)) 4)).alloc
        (Obj.cells #[Value.slice (some ⟨w.heap.size, 0, none⟩) n n, Value.slice (some ⟨w.heap.size + 1, 0, none⟩) n n, Value.int IntKind.i64 0] 51)).drew := by
  have e1 : Array.replicate n (Value.int IntKind.i64 0) = (List.replicate n (Value.int .i64 0)).toArray := by simp
  have e2 : Array.replicate n (Value.bool false) = (List.replicate n (Value.bool false)).toArray := by simp
  rw [e1, e2]
  refine ⟨_, w.heap.size, w.heap.size + 1, rfl, ⟨Blk.drew ?_, Blk.drew ?_, Blk.drew ?_, by omega, by omega, by omega, by simp [MemS.fresh], by simpa [MemS.fresh] using hn⟩, by omega, by omega, by omega, (((Only.refl _ _).alloc _).alloc _).alloc _ |>.drew⟩
  · simpa [MemS.fresh] using Blk.new ((w.alloc _).alloc _) _ _
  · simpa [MemS.fresh] using ((Blk.new w (List.replicate n (Value.int .i64 0)) 2).alloc _).alloc _
  · simpa [MemS.fresh] using (Blk.new (w.alloc _) (List.replicate n (Value.bool false)) 4).alloc _

theorem rnew_ba (n : Nat) (w : World) (hn : n ≤ 65536) : NewRef n w (.returned (.pointer (some ⟨w.heap.size + 1 + 1, 0, none⟩)))
    (((w.alloc (Obj.cells (Array.replicate n (Value.bool false)) 4)).alloc (Obj.cells (Array.replicate n (Value.int IntKind.i64 0)) 2)).alloc
        (Obj.cells #[Value.slice (some ⟨w.heap.size + 1, 0, none⟩) n n, Value.slice (some ⟨w.heap.size, 0, none⟩) n n, Value.int IntKind.i64 0] 51)).drew := by
  have e1 : Array.replicate n (Value.int IntKind.i64 0) = (List.replicate n (Value.int .i64 0)).toArray := by simp
  have e2 : Array.replicate n (Value.bool false) = (List.replicate n (Value.bool false)).toArray := by simp
  rw [e1, e2]
  refine ⟨_, w.heap.size + 1, w.heap.size, rfl, ⟨Blk.drew ?_, Blk.drew ?_, Blk.drew ?_, by omega, by omega, by omega, by simp [MemS.fresh], by simpa [MemS.fresh] using hn⟩, by omega, by omega, by omega, (((Only.refl _ _).alloc _).alloc _).alloc _ |>.drew⟩
  · simpa [MemS.fresh] using Blk.new ((w.alloc _).alloc _) _ _
  · simpa [MemS.fresh] using (Blk.new (w.alloc _) (List.replicate n (Value.int .i64 0)) 2).alloc _
  · simpa [MemS.fresh] using ((Blk.new w (List.replicate n (Value.bool false)) 4).alloc _).alloc _

theorem rnew_ok (n : Nat) (w : World) (hn : n ≤ 65536) : Calls Try.prog 19 #[.int .i64 n] w (NewRef n w) := by
  have h1 := fun w => make_i64 n hn w
  have h2 := fun w => make_bool n hn w
  go_enter Try.func19, Try.ntmps19
  go_wp2
  go_region
  all_goals go_wp2
  all_goals go_ret
  · exact rnew_ab n w hn
  · exact rnew_ba n w hn

theorem wrong_any (m a b : Nat) (s : MemS) (at_ : Int) (w : World) (hm : IsRef w m a b s) :
    Calls Try.prog 29 #[.pointer (some ⟨m, 0, none⟩), .int .i64 at_] w fun e w' => e = .returned (.int .i64 (s.code at_)) ∧ w = w' := by
  have c0 := hm.top.cell 0
  have c1 := hm.top.cell 1
  have hr := hm.room
  simp at c0 c1
  by_cases h1 : at_ < 0 ∨ (s.words.length : Int) ≤ at_
  · rw [MemS.code_six h1]
    have HM := Lib.hid hm; clear hm
    by_cases h2 : at_ < 0
    · clear h1
      go_enter Try.func29, Try.ntmps29
      go_wp2
      go_ret
      exact ⟨rfl, rfl⟩
    · have h3 : (s.words.length : Int) ≤ at_ := by omega
      clear h1
      go_enter Try.func29, Try.ntmps29
      go_wp2
      go_ret
      exact ⟨rfl, rfl⟩
  · obtain ⟨k, rfl⟩ : ∃ k : Nat, at_ = k := ⟨at_.toNat, by omega⟩
    have hk : k < s.words.length := by omega
    have cl := hm.cellL hk
    clear h1
    by_cases h2 : s.live.getD k false = true
    · rw [MemS.code_at hk h2]
      rw [h2] at cl
      have HM := Lib.hid hm; clear hm h2
      go_enter Try.func29, Try.ntmps29
      go_wp2
      go_ret
      exact ⟨rfl, rfl⟩
    · rw [MemS.code_seven hk (eq_false_of_ne_true h2)]
      rw [eq_false_of_ne_true h2] at cl
      have HM := Lib.hid hm; clear hm h2
      go_enter Try.func29, Try.ntmps29
      go_wp2
      go_ret
      exact ⟨rfl, rfl⟩

theorem rturn_out (m a b : Nat) (s : MemS) (at_ n : Int) (v : Bool) (w : World) (hm : IsRef w m a b s) (h : n < 0 ∨ at_ < 0 ∨ (s.words.length : Int) < at_ ∨ (s.words.length : Int) - at_ < n) :
    Calls Try.prog 28 #[.pointer (some ⟨m, 0, none⟩), .int .i64 at_, .int .i64 n, .bool v] w fun e w' => e = .returned (.int .i64 6) ∧ w = w' := by
  have c0 := hm.top.cell 0
  have hr := hm.room
  simp at c0
  clear hm
  by_cases h1 : n < 0
  · clear h
    go_enter Try.func28, Try.ntmps28
    go_wp2
    go_ret
    exact ⟨rfl, rfl⟩
  · by_cases h2 : at_ < 0
    · clear h
      go_enter Try.func28, Try.ntmps28
      go_wp2
      go_ret
      exact ⟨rfl, rfl⟩
    · obtain ⟨k, rfl⟩ : ∃ k : Nat, at_ = k := ⟨at_.toNat, by omega⟩
      by_cases h3 : s.words.length < k
      · clear h
        go_enter Try.func28, Try.ntmps28
        go_wp2
        go_ret
        exact ⟨rfl, rfl⟩
      · have h4 : (s.words.length : Int) - k < n := by omega
        clear h
        go_enter Try.func28, Try.ntmps28
        go_wp2
        go_ret
        exact ⟨rfl, rfl⟩

theorem rturn_in (m a b : Nat) (s : MemS) (at_ n : Nat) (v : Bool) (w : World) (hm : IsRef w m a b s) (h1 : at_ ≤ s.words.length) (h2 : n ≤ s.words.length - at_) :
    Calls Try.prog 28 #[.pointer (some ⟨m, 0, none⟩), .int .i64 at_, .int .i64 n, .bool v] w fun e w' => e = .returned (.int .i64 (s.tcode at_ n v)) ∧ IsRef w' m a b (s.turn at_ n v) ∧ Only [m, a, b] w w' := by
  have c0 := hm.top.cell 0
  have c1 := hm.top.cell 1
  have hr := hm.room
  simp at c0 c1
  have HM := Lib.hid hm
  clear hm
  have h3 : ¬ (s.words.length : Int) - at_ < n := by omega
  go_enter Try.func28, Try.ntmps28
  go_wp2_with fail
  go_loop [9] (fun t => ∃ k : Nat, k ≤ n ∧ t = .int .i64 k ∧ ∀ j, at_ ≤ j → j < at_ + k → s.live.getD j false ≠ v) (fun t => n - (intOf t).toNat)
  case atStart => exact ⟨0, by omega, rfl, fun j _ _ => by omega⟩
  case round =>
    obtain ⟨k, hk, rfl, hno⟩ := hrel
    have HN := Lib.hid hno; clear hno
    by_cases hlt : k < n
    · have cl := HM.out.cellL (i := at_ + k) (by omega)
      generalize hu : s.live.getD (at_ + k) false = u at cl
      have HU := Lib.hid hu; clear hu
      by_cases hv : u = v
      · have hv' : (u == v) = true := by simpa using hv
        have HV := Lib.hid hv; clear hv
        go_wp2_with fail
        go_ret
        have e : s.tcode at_ n v = 11 := MemS.tcode_eleven (j := at_ + k) HM.out.len (by omega) (by omega) (by omega) (HU.out.trans HV.out)
        exact ⟨ret_int e.symm, by rw [MemS.turn_ne (by rw [e]; decide)]; exact HM.out, Only.refl _ _⟩
      · have hv' : (u == v) = false := by simpa using hv
        have HV := Lib.hid hv; clear hv
        go_wp2_with fail
        go_round
        case rel => exact ⟨k + 1, by omega, by go_num, fun j h1 h2 e => by
          rcases Nat.lt_or_ge j (at_ + k) with h3 | h3
          · exact HN.out j h1 h3 e
          · obtain rfl : j = at_ + k := by omega
            exact HV.out (HU.out.symm.trans e)⟩
        case measure => simp [intOf]; omega
    · obtain rfl : k = n := by omega
      have HE := Lib.hid (show s.tcode at_ k v = 0 from MemS.tcode_zero HM.out.len (by omega) HN.out)
      go_wp2_with fail
      go_loopw [10] (fun t wr => ∃ j : Nat, j ≤ k ∧ t = .int .i64 j ∧ IsRef wr m a b (s.fill at_ v j) ∧ Only [a, b] w wr) (fun t _ => k - (intOf t).toNat)
      case atStart => exact ⟨0, by omega, rfl, HM.out, Only.refl _ _⟩
      case round =>
        obtain ⟨j, hj, rfl, hm1, ho1⟩ := hrel
        by_cases hlt : j < k
        · have d0 := hm1.top.cell 0
          have d1 := hm1.top.cell 1
          simp [MemS.fill, fillN_length] at d0 d1
          have d2 := hm1.cell (i := at_ + j) (by simp [MemS.fill, fillN_length]; omega)
          have d3 := hm1.cellL (i := at_ + j) (by simp [MemS.fill, fillN_length]; omega)
          generalize (s.fill at_ v j).words.getD (at_ + j) 0 = u1 at d2
          generalize (s.fill at_ v j).live.getD (at_ + j) false = u2 at d3
          have f2 := hm1.words.free (at_ + j)
          have f3 := hm1.live.free (at_ + j)
          have nab := hm1.ab
          have HM1 := Lib.hid hm1
          have HO1 := Lib.hid ho1
          clear hm1 ho1
          go_wp2_with fail
          go_region
          all_goals go_wp2_with fail
          go_roundw
          case rel => exact ⟨j + 1, by omega, by go_num, HM1.out.fill1.drew, ((HO1.out.setCell (by simp) _).setCell (by simp) _).drew⟩
          case measure => simp [intOf]; omega
        · obtain rfl : j = k := by omega
          have HM1 := Lib.hid hm1
          have HO1 := Lib.hid ho1
          clear hm1 ho1
          go_wp2_with fail
          go_ret
          exact ⟨ret_int HE.out.symm, by rw [MemS.turn_eq HE.out]; exact HM1.out, HO1.out.mono (by simp)⟩

theorem rturn_any (m a b : Nat) (s : MemS) (at_ n : Int) (v : Bool) (w : World) (hm : IsRef w m a b s) :
    Calls Try.prog 28 #[.pointer (some ⟨m, 0, none⟩), .int .i64 at_, .int .i64 n, .bool v] w fun e w' => e = .returned (.int .i64 (s.tcode at_ n v)) ∧ IsRef w' m a b (s.turn at_ n v) ∧ Only [m, a, b] w w' := by
  by_cases h : n < 0 ∨ at_ < 0 ∨ (s.words.length : Int) < at_ ∨ (s.words.length : Int) - at_ < n
  · have e := MemS.tcode_six (v := v) h
    rw [e, MemS.turn_ne (by rw [e]; decide)]
    refine (rturn_out m a b s at_ n v w hm h).mono ?_
    rintro e w' ⟨rfl, rfl⟩
    exact ⟨rfl, hm, Only.refl _ _⟩
  · obtain ⟨i, rfl⟩ : ∃ i : Nat, at_ = i := ⟨at_.toNat, by omega⟩
    obtain ⟨k, rfl⟩ : ∃ k : Nat, n = k := ⟨n.toNat, by omega⟩
    exact rturn_in m a b s i k v w hm (by omega) (by omega)

end Go.Proofs.Ytpbbpineepdeeaa
