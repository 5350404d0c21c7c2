/- DequeAlone returns true, whatever the kind, the room and the acts are. -/
import Derived.Test.YtlogmfpnjpamgaaAlone1
import Derived.Test.YtlogmfpnjpamgaaAlone2
import Derived.Test.YtlogmfpnjpamgaaAlone3
open Go Go.RowKit
namespace Go.Proofs.Ytlogmfpnjpamgaa

theorem dequeAlone_walk (kind room : Int) (zs : List Int) (v : Value) (w : World) (h1 : 0 ≤ kind ∧ kind ≤ 255) (h2 : 0 ≤ room ∧ room ≤ 255) (hv : ArgInts w .u8 v zs) (hz : ∀ z ∈ zs, (Lit.int .u8 z).wf = true) :
    Calls Try.prog 6 #[.int .u8 kind, .int .u8 room, v] w fun e w' => e = .returned (.bool true) ∧ Below w.heap.size w w' := by
  by_cases h : zs.length ≤ 100
  · obtain ⟨i, rfl⟩ : ∃ i : Nat, kind = i := ⟨kind.toNat, by omega⟩
    obtain ⟨j, rfl⟩ : ∃ j : Nat, room = j := ⟨room.toNat, by omega⟩
    rcases (show (i : Int) % 3 + 1 = 1 ∨ (i : Int) % 3 + 1 = 2 ∨ (i : Int) % 3 + 1 = 3 by omega) with hk | hk | hk
    · exact dequeAlone_1 i j zs v w (by omega) (by omega) hv h hz hk
    · exact dequeAlone_2 i j zs v w (by omega) (by omega) hv h hz hk
    · exact dequeAlone_3 i j zs v w (by omega) (by omega) hv h hz hk
  · obtain ⟨a, cap, rfl, _⟩ := hv
    exact dequeAlone_long _ _ _ _ _ _ (by omega)

end Go.Proofs.Ytlogmfpnjpamgaa
