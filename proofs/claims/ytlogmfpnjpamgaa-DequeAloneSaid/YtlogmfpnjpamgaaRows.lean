/-
  No cell of these rows narrows 'for every input' (looked for: loops, veiled, ifaces, maps, wideKeys, modest, calm, conditions, laid).
  DERIVED. THE GIVEN ROWS OF THIS SEAT. 7 by the template 'for every input the law returns true; each argument reads behind the call as it read before'; 0 by the template 'total and deterministic' (their statements: YtlogmfpnjpamgaaTotals.lean).
  GIVEN WITH THE SEED: the statements are not yours to turn. If you find one false, say at which input.
  Laid BY PROGRAM, IN A SANDBOX (cutbox-rows.mjs): the forced cells as the released guide's own fill.sh prints them over the translation e2dbeaa2d59b6c29… (all of the seat's roots in one cut). By AI agents, Wed Nov 11 2026. No macro, syntax, notation, axiom, sorry.
-/
import Derived.Test.YtlogmfpnjpamgaaChecked
import GoSem.Claim
import GoSem.ClaimJoined
import GoSem.ClaimMapViews
import Derived.JoinedTies
import Derived.KernelRfl
namespace Go.Proofs.Ytlogmfpnjpamgaa
/- THE CELL 'sum', in the pinned program and in every row, IS THE sha256 OF THE DUMP (.gsa) THAT YtlogmfpnjpamgaaProg.lean LOADS. Nothing in Lean hashes anything: it is a label: what it is worth is what the hold of that sum in a sandbox is worth. -/
noncomputable def Try.pinned : Pinned := { name := "ytlogmfpnjpamgaa", sum := "e2dbeaa2d59b6c29fc7356726059160028752e0dca5e2118b845bea6f2b7bfaa", checked := Try.checked }
namespace Rows
def none {H : Type} : Left H := { results := [], args := [] }

/-- 'haymowlaw09.DequeNew': WHATEVER THE INPUT: true; the input reads as it did. -/
def dequeNewSpec : ChangeSpec := { name := "dequeNew", fn := fun _ => fun
  | [d1, d2, d3] => { results := [.lit (.bool true)], args := [d1, d2, d3] }
  | _ => none }
def dequeNewRow : OpenClaim := { program := "ytlogmfpnjpamgaa", sum := "e2dbeaa2d59b6c29fc7356726059160028752e0dca5e2118b845bea6f2b7bfaa", func := "haymow/haymowlaw09.DequeNew", spec := "dequeNew", unfollowed := true, recurses := true, apart := false }
def DequeNewSaid : Prop := dequeNewRow.holds Try.pinned (OpenSpec.ofChange dequeNewSpec)

/-- ITS FALSE NEIGHBOUR: 'it returns false'. Refute it at one input. -/
def dequeNewWrong : ChangeSpec := { name := "dequeNew", fn := fun _ => fun
  | [d1, d2, d3] => { results := [.lit (.bool false)], args := [d1, d2, d3] }
  | _ => none }
def DequeNewWrongFalsely : Prop := dequeNewRow.holds Try.pinned (OpenSpec.ofChange dequeNewWrong)

/-- 'haymowlaw09.DequeMoves': WHATEVER THE INPUT: true; the input reads as it did. -/
def dequeMovesSpec : ChangeSpec := { name := "dequeMoves", fn := fun _ => fun
  | [d1, d2, d3] => { results := [.lit (.bool true)], args := [d1, d2, d3] }
  | _ => none }
def dequeMovesRow : OpenClaim := { program := "ytlogmfpnjpamgaa", sum := "e2dbeaa2d59b6c29fc7356726059160028752e0dca5e2118b845bea6f2b7bfaa", func := "haymow/haymowlaw09.DequeMoves", spec := "dequeMoves", unfollowed := true, recurses := true, apart := false }
def DequeMovesSaid : Prop := dequeMovesRow.holds Try.pinned (OpenSpec.ofChange dequeMovesSpec)

/-- ITS FALSE NEIGHBOUR: 'it returns false'. Refute it at one input. -/
def dequeMovesWrong : ChangeSpec := { name := "dequeMoves", fn := fun _ => fun
  | [d1, d2, d3] => { results := [.lit (.bool false)], args := [d1, d2, d3] }
  | _ => none }
def DequeMovesWrongFalsely : Prop := dequeMovesRow.holds Try.pinned (OpenSpec.ofChange dequeMovesWrong)

/-- 'haymowlaw09.DequeOnce': WHATEVER THE INPUT: true; the input reads as it did. -/
def dequeOnceSpec : ChangeSpec := { name := "dequeOnce", fn := fun _ => fun
  | [d1, d2, d3] => { results := [.lit (.bool true)], args := [d1, d2, d3] }
  | _ => none }
def dequeOnceRow : OpenClaim := { program := "ytlogmfpnjpamgaa", sum := "e2dbeaa2d59b6c29fc7356726059160028752e0dca5e2118b845bea6f2b7bfaa", func := "haymow/haymowlaw09.DequeOnce", spec := "dequeOnce", unfollowed := true, recurses := true, apart := false }
def DequeOnceSaid : Prop := dequeOnceRow.holds Try.pinned (OpenSpec.ofChange dequeOnceSpec)

/-- ITS FALSE NEIGHBOUR: 'it returns false'. Refute it at one input. -/
def dequeOnceWrong : ChangeSpec := { name := "dequeOnce", fn := fun _ => fun
  | [d1, d2, d3] => { results := [.lit (.bool false)], args := [d1, d2, d3] }
  | _ => none }
def DequeOnceWrongFalsely : Prop := dequeOnceRow.holds Try.pinned (OpenSpec.ofChange dequeOnceWrong)

/-- 'haymowlaw09.DequeAlone': WHATEVER THE INPUT: true; the input reads as it did. -/
def dequeAloneSpec : ChangeSpec := { name := "dequeAlone", fn := fun _ => fun
  | [d1, d2, d3] => { results := [.lit (.bool true)], args := [d1, d2, d3] }
  | _ => none }
def dequeAloneRow : OpenClaim := { program := "ytlogmfpnjpamgaa", sum := "e2dbeaa2d59b6c29fc7356726059160028752e0dca5e2118b845bea6f2b7bfaa", func := "haymow/haymowlaw09.DequeAlone", spec := "dequeAlone", unfollowed := true, recurses := true, apart := false }
def DequeAloneSaid : Prop := dequeAloneRow.holds Try.pinned (OpenSpec.ofChange dequeAloneSpec)

/-- ITS FALSE NEIGHBOUR: 'it returns false'. Refute it at one input. -/
def dequeAloneWrong : ChangeSpec := { name := "dequeAlone", fn := fun _ => fun
  | [d1, d2, d3] => { results := [.lit (.bool false)], args := [d1, d2, d3] }
  | _ => none }
def DequeAloneWrongFalsely : Prop := dequeAloneRow.holds Try.pinned (OpenSpec.ofChange dequeAloneWrong)

/-- 'haymowlaw09.DequeWraps': WHATEVER THE INPUT: true; the input reads as it did. -/
def dequeWrapsSpec : ChangeSpec := { name := "dequeWraps", fn := fun _ => fun
  | [d1, d2, d3] => { results := [.lit (.bool true)], args := [d1, d2, d3] }
  | _ => none }
def dequeWrapsRow : OpenClaim := { program := "ytlogmfpnjpamgaa", sum := "e2dbeaa2d59b6c29fc7356726059160028752e0dca5e2118b845bea6f2b7bfaa", func := "haymow/haymowlaw09.DequeWraps", spec := "dequeWraps", unfollowed := true, recurses := true, apart := false }
def DequeWrapsSaid : Prop := dequeWrapsRow.holds Try.pinned (OpenSpec.ofChange dequeWrapsSpec)

/-- ITS FALSE NEIGHBOUR: 'it returns false'. Refute it at one input. -/
def dequeWrapsWrong : ChangeSpec := { name := "dequeWraps", fn := fun _ => fun
  | [d1, d2, d3] => { results := [.lit (.bool false)], args := [d1, d2, d3] }
  | _ => none }
def DequeWrapsWrongFalsely : Prop := dequeWrapsRow.holds Try.pinned (OpenSpec.ofChange dequeWrapsWrong)

/-- 'haymowlaw09.DequeSteals': WHATEVER THE INPUT: true; the input reads as it did. -/
def dequeStealsSpec : ChangeSpec := { name := "dequeSteals", fn := fun _ => fun
  | [d1, d2, d3] => { results := [.lit (.bool true)], args := [d1, d2, d3] }
  | _ => none }
def dequeStealsRow : OpenClaim := { program := "ytlogmfpnjpamgaa", sum := "e2dbeaa2d59b6c29fc7356726059160028752e0dca5e2118b845bea6f2b7bfaa", func := "haymow/haymowlaw09.DequeSteals", spec := "dequeSteals", unfollowed := true, recurses := true, apart := false }
def DequeStealsSaid : Prop := dequeStealsRow.holds Try.pinned (OpenSpec.ofChange dequeStealsSpec)

/-- ITS FALSE NEIGHBOUR: 'it returns false'. Refute it at one input. -/
def dequeStealsWrong : ChangeSpec := { name := "dequeSteals", fn := fun _ => fun
  | [d1, d2, d3] => { results := [.lit (.bool false)], args := [d1, d2, d3] }
  | _ => none }
def DequeStealsWrongFalsely : Prop := dequeStealsRow.holds Try.pinned (OpenSpec.ofChange dequeStealsWrong)

/-- 'haymowlaw09.DequeRace': WHATEVER THE INPUT: true; the input reads as it did. -/
def dequeRaceSpec : ChangeSpec := { name := "dequeRace", fn := fun _ => fun
  | [d1, d2, d3] => { results := [.lit (.bool true)], args := [d1, d2, d3] }
  | _ => none }
def dequeRaceRow : OpenClaim := { program := "ytlogmfpnjpamgaa", sum := "e2dbeaa2d59b6c29fc7356726059160028752e0dca5e2118b845bea6f2b7bfaa", func := "haymow/haymowlaw09.DequeRace", spec := "dequeRace", unfollowed := true, recurses := true, apart := false }
def DequeRaceSaid : Prop := dequeRaceRow.holds Try.pinned (OpenSpec.ofChange dequeRaceSpec)

/-- ITS FALSE NEIGHBOUR: 'it returns false'. Refute it at one input. -/
def dequeRaceWrong : ChangeSpec := { name := "dequeRace", fn := fun _ => fun
  | [d1, d2, d3] => { results := [.lit (.bool false)], args := [d1, d2, d3] }
  | _ => none }
def DequeRaceWrongFalsely : Prop := dequeRaceRow.holds Try.pinned (OpenSpec.ofChange dequeRaceWrong)

/- THE SECOND FORM. 'bulk': how many values and letters a reading holds, each counted each time it is reached (what is shared counts as often as it is met; a slice's spare places count too). A statement '..UptoSaid' is the law's where the arguments, and the package variables that the reading takes, are together of bulk at most 1048576: NARROWER than '..Said'. Prove '..Said' where nothing that the law and all that it calls make is longer than what came in: it says more and counts as full. Else prove '..UptoSaid'. A law counts once. -/
mutual
def uptoBulk {H : Type} : DataW H → Nat
  | .lit (.string bytes) => bytes.length + 1
  | .lit _ => 1
  | .nil => 1
  | .ptr d => uptoBulk d + 1
  | .slice elems spare => uptoBulkAll elems + uptoBulkAll spare + 1
  | .agg parts => uptoBulkAll parts + 1
  | .iface _ d => uptoBulk d + 1
  | .map entries => uptoBulkEntries entries + 1
  | .held _ => 1
def uptoBulkAll {H : Type} : List (DataW H) → Nat
  | [] => 0
  | d :: r => uptoBulk d + uptoBulkAll r
def uptoBulkEntries {H : Type} : List (Lit × DataW H) → Nat
  | [] => 0
  | x :: r => uptoBulkEntry x + uptoBulkEntries r
def uptoBulkEntry {H : Type} : Lit × DataW H → Nat
  | (.string bytes, d) => bytes.length + uptoBulk d + 1
  | (_, d) => uptoBulk d + 1
 end
def uptoSmall : (H : Type) → List (DataW H) → Bool := fun _ ds => decide (uptoBulkAll ds ≤ 1048576)
def OpenSpec.upto (s : _root_.Go.ChangeSpec) : _root_.Go.OpenSpec := { _root_.Go.OpenSpec.ofChange s with cond := some uptoSmall }

/-- 'haymowlaw09.DequeNew', WHERE WHAT IT READS IS OF BULK AT MOST 1048576: true; the input reads as it did. -/
def dequeNewUptoRow : OpenClaim := { program := "ytlogmfpnjpamgaa", sum := "e2dbeaa2d59b6c29fc7356726059160028752e0dca5e2118b845bea6f2b7bfaa", func := "haymow/haymowlaw09.DequeNew", spec := "dequeNew", unfollowed := true, recurses := true, apart := false, narrowed := true }
def DequeNewUptoSaid : Prop := dequeNewUptoRow.holds Try.pinned (OpenSpec.upto dequeNewSpec)

/-- 'haymowlaw09.DequeMoves', WHERE WHAT IT READS IS OF BULK AT MOST 1048576: true; the input reads as it did. -/
def dequeMovesUptoRow : OpenClaim := { program := "ytlogmfpnjpamgaa", sum := "e2dbeaa2d59b6c29fc7356726059160028752e0dca5e2118b845bea6f2b7bfaa", func := "haymow/haymowlaw09.DequeMoves", spec := "dequeMoves", unfollowed := true, recurses := true, apart := false, narrowed := true }
def DequeMovesUptoSaid : Prop := dequeMovesUptoRow.holds Try.pinned (OpenSpec.upto dequeMovesSpec)

/-- 'haymowlaw09.DequeOnce', WHERE WHAT IT READS IS OF BULK AT MOST 1048576: true; the input reads as it did. -/
def dequeOnceUptoRow : OpenClaim := { program := "ytlogmfpnjpamgaa", sum := "e2dbeaa2d59b6c29fc7356726059160028752e0dca5e2118b845bea6f2b7bfaa", func := "haymow/haymowlaw09.DequeOnce", spec := "dequeOnce", unfollowed := true, recurses := true, apart := false, narrowed := true }
def DequeOnceUptoSaid : Prop := dequeOnceUptoRow.holds Try.pinned (OpenSpec.upto dequeOnceSpec)

/-- 'haymowlaw09.DequeAlone', WHERE WHAT IT READS IS OF BULK AT MOST 1048576: true; the input reads as it did. -/
def dequeAloneUptoRow : OpenClaim := { program := "ytlogmfpnjpamgaa", sum := "e2dbeaa2d59b6c29fc7356726059160028752e0dca5e2118b845bea6f2b7bfaa", func := "haymow/haymowlaw09.DequeAlone", spec := "dequeAlone", unfollowed := true, recurses := true, apart := false, narrowed := true }
def DequeAloneUptoSaid : Prop := dequeAloneUptoRow.holds Try.pinned (OpenSpec.upto dequeAloneSpec)

/-- 'haymowlaw09.DequeWraps', WHERE WHAT IT READS IS OF BULK AT MOST 1048576: true; the input reads as it did. -/
def dequeWrapsUptoRow : OpenClaim := { program := "ytlogmfpnjpamgaa", sum := "e2dbeaa2d59b6c29fc7356726059160028752e0dca5e2118b845bea6f2b7bfaa", func := "haymow/haymowlaw09.DequeWraps", spec := "dequeWraps", unfollowed := true, recurses := true, apart := false, narrowed := true }
def DequeWrapsUptoSaid : Prop := dequeWrapsUptoRow.holds Try.pinned (OpenSpec.upto dequeWrapsSpec)

/-- 'haymowlaw09.DequeSteals', WHERE WHAT IT READS IS OF BULK AT MOST 1048576: true; the input reads as it did. -/
def dequeStealsUptoRow : OpenClaim := { program := "ytlogmfpnjpamgaa", sum := "e2dbeaa2d59b6c29fc7356726059160028752e0dca5e2118b845bea6f2b7bfaa", func := "haymow/haymowlaw09.DequeSteals", spec := "dequeSteals", unfollowed := true, recurses := true, apart := false, narrowed := true }
def DequeStealsUptoSaid : Prop := dequeStealsUptoRow.holds Try.pinned (OpenSpec.upto dequeStealsSpec)

/-- 'haymowlaw09.DequeRace', WHERE WHAT IT READS IS OF BULK AT MOST 1048576: true; the input reads as it did. -/
def dequeRaceUptoRow : OpenClaim := { program := "ytlogmfpnjpamgaa", sum := "e2dbeaa2d59b6c29fc7356726059160028752e0dca5e2118b845bea6f2b7bfaa", func := "haymow/haymowlaw09.DequeRace", spec := "dequeRace", unfollowed := true, recurses := true, apart := false, narrowed := true }
def DequeRaceUptoSaid : Prop := dequeRaceUptoRow.holds Try.pinned (OpenSpec.upto dequeRaceSpec)

end Rows
end Go.Proofs.Ytlogmfpnjpamgaa
