/- Layer 1, the inner functions: what each call does to a memory that reads as a given one. -/
import Derived.Test.YtccadafajocbgaaBase
open Go Go.RowKit
namespace Go.Proofs.Ytccadafajocbgaa

theorem index_any (b off n : Nat) (cap : Nat) (l : List Bool) (v : Bool) (w : World) (hn : l.length = n) (hn' : n ≤ 65536)
    (hc : ∀ i, i < n → w.cell? ⟨b, off + i, none⟩ = some (.bool (l.getD i false))) :
    Calls Try.prog 58 #[.slice (some ⟨b, off, none⟩) n cap, .bool v] w fun e w' => (∃ k : Int, e = .returned (.int .i64 k) ∧ (0 ≤ k ↔ v ∈ l)) ∧ w = w' := by
  have HN := Lib.hid hn; clear hn
  go_enter Try.func58, Try.ntmps58
  go_wp2
  go_loop [8] (fun t => ∃ k : Nat, k ≤ n ∧ t = .int .i64 k ∧ (∀ j, j < k → l.getD j false ≠ v)) (fun t => n - (intOf t).toNat)
  case atStart => exact ⟨0, Nat.zero_le _, rfl, fun j h => by omega⟩
  case round =>
    obtain ⟨k, hk, rfl, hrel⟩ := hrel
    have HR := Lib.hid hrel; clear hrel
    by_cases hlt : k < n
    · have hcell := hc k hlt
      have HC := Lib.hid hc; clear hc
      generalize hu : l.getD k false = u at hcell
      have HU := Lib.hid hu; clear hu
      by_cases hv : v = u
      · have hv' : (v == u) = true := by simpa using hv
        have HV := Lib.hid hv; clear hv
        go_wp2
        go_ret
        refine ⟨⟨_, rfl, ⟨fun _ => ?_, fun _ => by omega⟩⟩, rfl⟩
        rw [HV.out, ← HU.out, List.getD_eq_getElem?_getD, List.getElem?_eq_getElem (by have := HN.out; omega)]
        simp
      · have hv' : (v == u) = false := by simpa using hv
        have HV := Lib.hid hv; clear hv
        go_wp2
        go_round
        case rel => exact ⟨k + 1, by omega, by go_num, fun j h e => by
          rcases Nat.lt_or_ge j k with h1 | h1
          · exact HR.out j h1 e
          · obtain rfl : j = k := by omega
            exact HV.out (e.symm.trans HU.out)⟩
        case measure => simp [intOf]; omega
    · have HC := Lib.hid hc; clear hc
      go_wp2
      go_ret
      refine ⟨⟨_, rfl, ⟨fun h => by omega, fun h => ?_⟩⟩, rfl⟩
      obtain ⟨j, hj, e⟩ := List.getElem_of_mem h
      refine absurd ?_ (HR.out j (by have := HN.out; omega))
      rw [List.getD_eq_getElem?_getD, List.getElem?_eq_getElem hj, ← e]; rfl

theorem ret_bool {a b : Bool} (h : a = b) : Ending.returned (.bool a) = .returned (.bool b) := by rw [h]
theorem ret_int {k : IntKind} {a b : Int} (h : a = b) : Ending.returned (.int k a) = .returned (.int k b) := by rw [h]

theorem contains_any (b off n : Nat) (cap : Nat) (l : List Bool) (v : Bool) (w : World) (hn : l.length = n) (hn' : n ≤ 65536)
    (hc : ∀ i, i < n → w.cell? ⟨b, off + i, none⟩ = some (.bool (l.getD i false))) :
    Calls Try.prog 55 #[.slice (some ⟨b, off, none⟩) n cap, .bool v] w fun e w' => e = .returned (.bool (decide (v ∈ l))) ∧ w = w' := by
  have HN := Lib.hid hn
  have H := Lib.hid (index_any b off n cap l v w hn hn' hc); clear hc hn
  go_enter Try.func55, Try.ntmps55
  go_wp2_with (go_at_call 58; refine H.out.mono ?_; rintro e w' ⟨⟨k, rfl, hk⟩, rfl⟩; have HK := Lib.hid hk; clear hk)
  go_ret
  exact ⟨ret_bool (by simp [← HK.out]), rfl⟩

/-- What a memory reads as. -/
structure MemS where
  words : List Int
  live : List Bool
  steps : Int

/-- Blocks m (a struct of type T), a (the words), b (which are live) of w are a memory that reads as s. -/
structure IsM (T : TypeId) (w : World) (m a b : Nat) (s : MemS) : Prop where
  top : Blk w m [.slice (some ⟨a, 0, none⟩) s.words.length s.words.length, .slice (some ⟨b, 0, none⟩) s.words.length s.words.length, .int .i64 s.steps] T
  words : Blk w a (s.words.map (.int .i64)) 2
  live : Blk w b (s.live.map .bool) 4
  ma : m ≠ a
  mb : m ≠ b
  ab : a ≠ b
  len : s.live.length = s.words.length
  room : s.words.length ≤ 65536

/-- a memory of the program -/
abbrev IsMem := IsM 66

end Go.Proofs.Ytccadafajocbgaa
