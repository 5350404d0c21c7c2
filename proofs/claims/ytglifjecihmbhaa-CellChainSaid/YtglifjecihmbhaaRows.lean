/-
  No cell of these rows narrows 'for every input' (looked for: loops, veiled, ifaces, maps, wideKeys, modest, calm, conditions, laid).
  DERIVED. THE GIVEN ROWS OF THIS SEAT. 5 by the template 'for every input the law returns true; each argument reads behind the call as it read before'; 0 by the template 'total and deterministic' (their statements: YtglifjecihmbhaaTotals.lean).
  GIVEN WITH THE SEED: the statements are not yours to turn. If you find one false, say at which input.
  Laid BY PROGRAM, IN A SANDBOX (cutbox-rows.mjs): the forced cells as the released guide's own fill.sh prints them over the translation 2d4fb90dcbc8611d… (all of the seat's roots in one cut). By AI agents, Wed Nov 11 2026. No macro, syntax, notation, axiom, sorry.
-/
import Derived.Test.YtglifjecihmbhaaChecked
import GoSem.Claim
import GoSem.ClaimJoined
import GoSem.ClaimMapViews
import Derived.JoinedTies
import Derived.KernelRfl
namespace Go.Proofs.Ytglifjecihmbhaa
/- THE CELL 'sum', in the pinned program and in every row, IS THE sha256 OF THE DUMP (.gsa) THAT YtglifjecihmbhaaProg.lean LOADS. Nothing in Lean hashes anything: it is a label: what it is worth is what the hold of that sum in a sandbox is worth. -/
noncomputable def Try.pinned : Pinned := { name := "ytglifjecihmbhaa", sum := "2d4fb90dcbc8611d898fea2264a0ff2ec338a53cf08e8519596c941403950738", checked := Try.checked }
namespace Rows
def none {H : Type} : Left H := { results := [], args := [] }

/-- 'haymowlaw13.CellMoves': WHATEVER THE INPUT: true; the input reads as it did. -/
def cellMovesSpec : ChangeSpec := { name := "cellMoves", fn := fun _ => fun
  | [d1, d2, d3] => { results := [.lit (.bool true)], args := [d1, d2, d3] }
  | _ => none }
def cellMovesRow : OpenClaim := { program := "ytglifjecihmbhaa", sum := "2d4fb90dcbc8611d898fea2264a0ff2ec338a53cf08e8519596c941403950738", func := "haymow/haymowlaw13.CellMoves", spec := "cellMoves", unfollowed := true, recurses := true, apart := false }
def CellMovesSaid : Prop := cellMovesRow.holds Try.pinned (OpenSpec.ofChange cellMovesSpec)

/-- ITS FALSE NEIGHBOUR: 'it returns false'. Refute it at one input. -/
def cellMovesWrong : ChangeSpec := { name := "cellMoves", fn := fun _ => fun
  | [d1, d2, d3] => { results := [.lit (.bool false)], args := [d1, d2, d3] }
  | _ => none }
def CellMovesWrongFalsely : Prop := cellMovesRow.holds Try.pinned (OpenSpec.ofChange cellMovesWrong)

/-- 'haymowlaw13.CellOnce': WHATEVER THE INPUT: true; the input reads as it did. -/
def cellOnceSpec : ChangeSpec := { name := "cellOnce", fn := fun _ => fun
  | [d1, d2, d3] => { results := [.lit (.bool true)], args := [d1, d2, d3] }
  | _ => none }
def cellOnceRow : OpenClaim := { program := "ytglifjecihmbhaa", sum := "2d4fb90dcbc8611d898fea2264a0ff2ec338a53cf08e8519596c941403950738", func := "haymow/haymowlaw13.CellOnce", spec := "cellOnce", unfollowed := true, recurses := true, apart := false }
def CellOnceSaid : Prop := cellOnceRow.holds Try.pinned (OpenSpec.ofChange cellOnceSpec)

/-- ITS FALSE NEIGHBOUR: 'it returns false'. Refute it at one input. -/
def cellOnceWrong : ChangeSpec := { name := "cellOnce", fn := fun _ => fun
  | [d1, d2, d3] => { results := [.lit (.bool false)], args := [d1, d2, d3] }
  | _ => none }
def CellOnceWrongFalsely : Prop := cellOnceRow.holds Try.pinned (OpenSpec.ofChange cellOnceWrong)

/-- 'haymowlaw13.CellNone': WHATEVER THE INPUT: true; the input reads as it did. -/
def cellNoneSpec : ChangeSpec := { name := "cellNone", fn := fun _ => fun
  | [d1, d2] => { results := [.lit (.bool true)], args := [d1, d2] }
  | _ => none }
def cellNoneRow : OpenClaim := { program := "ytglifjecihmbhaa", sum := "2d4fb90dcbc8611d898fea2264a0ff2ec338a53cf08e8519596c941403950738", func := "haymow/haymowlaw13.CellNone", spec := "cellNone", unfollowed := true, recurses := true, apart := false }
def CellNoneSaid : Prop := cellNoneRow.holds Try.pinned (OpenSpec.ofChange cellNoneSpec)

/-- ITS FALSE NEIGHBOUR: 'it returns false'. Refute it at one input. -/
def cellNoneWrong : ChangeSpec := { name := "cellNone", fn := fun _ => fun
  | [d1, d2] => { results := [.lit (.bool false)], args := [d1, d2] }
  | _ => none }
def CellNoneWrongFalsely : Prop := cellNoneRow.holds Try.pinned (OpenSpec.ofChange cellNoneWrong)

/-- 'haymowlaw13.CellAlone': WHATEVER THE INPUT: true; the input reads as it did. -/
def cellAloneSpec : ChangeSpec := { name := "cellAlone", fn := fun _ => fun
  | [d1, d2, d3] => { results := [.lit (.bool true)], args := [d1, d2, d3] }
  | _ => none }
def cellAloneRow : OpenClaim := { program := "ytglifjecihmbhaa", sum := "2d4fb90dcbc8611d898fea2264a0ff2ec338a53cf08e8519596c941403950738", func := "haymow/haymowlaw13.CellAlone", spec := "cellAlone", unfollowed := true, recurses := true, apart := false }
def CellAloneSaid : Prop := cellAloneRow.holds Try.pinned (OpenSpec.ofChange cellAloneSpec)

/-- ITS FALSE NEIGHBOUR: 'it returns false'. Refute it at one input. -/
def cellAloneWrong : ChangeSpec := { name := "cellAlone", fn := fun _ => fun
  | [d1, d2, d3] => { results := [.lit (.bool false)], args := [d1, d2, d3] }
  | _ => none }
def CellAloneWrongFalsely : Prop := cellAloneRow.holds Try.pinned (OpenSpec.ofChange cellAloneWrong)

/-- 'haymowlaw13.CellChain': WHATEVER THE INPUT: true; the input reads as it did. -/
def cellChainSpec : ChangeSpec := { name := "cellChain", fn := fun _ => fun
  | [d1, d2] => { results := [.lit (.bool true)], args := [d1, d2] }
  | _ => none }
def cellChainRow : OpenClaim := { program := "ytglifjecihmbhaa", sum := "2d4fb90dcbc8611d898fea2264a0ff2ec338a53cf08e8519596c941403950738", func := "haymow/haymowlaw13.CellChain", spec := "cellChain", unfollowed := true, recurses := true, apart := false }
def CellChainSaid : Prop := cellChainRow.holds Try.pinned (OpenSpec.ofChange cellChainSpec)

/-- ITS FALSE NEIGHBOUR: 'it returns false'. Refute it at one input. -/
def cellChainWrong : ChangeSpec := { name := "cellChain", fn := fun _ => fun
  | [d1, d2] => { results := [.lit (.bool false)], args := [d1, d2] }
  | _ => none }
def CellChainWrongFalsely : Prop := cellChainRow.holds Try.pinned (OpenSpec.ofChange cellChainWrong)

/- THE SECOND FORM. 'bulk': how many values and letters a reading holds, each counted each time it is reached (what is shared counts as often as it is met; a slice's spare places count too). A statement '..UptoSaid' is the law's where the arguments, and the package variables that the reading takes, are together of bulk at most 1048576: NARROWER than '..Said'. Prove '..Said' where nothing that the law and all that it calls make is longer than what came in: it says more and counts as full. Else prove '..UptoSaid'. A law counts once. -/
mutual
def uptoBulk {H : Type} : DataW H → Nat
  | .lit (.string bytes) => bytes.length + 1
  | .lit _ => 1
  | .nil => 1
  | .ptr d => uptoBulk d + 1
  | .slice elems spare => uptoBulkAll elems + uptoBulkAll spare + 1
  | .agg parts => uptoBulkAll parts + 1
  | .iface _ d => uptoBulk d + 1
  | .map entries => uptoBulkEntries entries + 1
  | .held _ => 1
def uptoBulkAll {H : Type} : List (DataW H) → Nat
  | [] => 0
  | d :: r => uptoBulk d + uptoBulkAll r
def uptoBulkEntries {H : Type} : List (Lit × DataW H) → Nat
  | [] => 0
  | x :: r => uptoBulkEntry x + uptoBulkEntries r
def uptoBulkEntry {H : Type} : Lit × DataW H → Nat
  | (.string bytes, d) => bytes.length + uptoBulk d + 1
  | (_, d) => uptoBulk d + 1
 end
def uptoSmall : (H : Type) → List (DataW H) → Bool := fun _ ds => decide (uptoBulkAll ds ≤ 1048576)
def OpenSpec.upto (s : _root_.Go.ChangeSpec) : _root_.Go.OpenSpec := { _root_.Go.OpenSpec.ofChange s with cond := some uptoSmall }

/-- 'haymowlaw13.CellMoves', WHERE WHAT IT READS IS OF BULK AT MOST 1048576: true; the input reads as it did. -/
def cellMovesUptoRow : OpenClaim := { program := "ytglifjecihmbhaa", sum := "2d4fb90dcbc8611d898fea2264a0ff2ec338a53cf08e8519596c941403950738", func := "haymow/haymowlaw13.CellMoves", spec := "cellMoves", unfollowed := true, recurses := true, apart := false, narrowed := true }
def CellMovesUptoSaid : Prop := cellMovesUptoRow.holds Try.pinned (OpenSpec.upto cellMovesSpec)

/-- 'haymowlaw13.CellOnce', WHERE WHAT IT READS IS OF BULK AT MOST 1048576: true; the input reads as it did. -/
def cellOnceUptoRow : OpenClaim := { program := "ytglifjecihmbhaa", sum := "2d4fb90dcbc8611d898fea2264a0ff2ec338a53cf08e8519596c941403950738", func := "haymow/haymowlaw13.CellOnce", spec := "cellOnce", unfollowed := true, recurses := true, apart := false, narrowed := true }
def CellOnceUptoSaid : Prop := cellOnceUptoRow.holds Try.pinned (OpenSpec.upto cellOnceSpec)

/-- 'haymowlaw13.CellNone', WHERE WHAT IT READS IS OF BULK AT MOST 1048576: true; the input reads as it did. -/
def cellNoneUptoRow : OpenClaim := { program := "ytglifjecihmbhaa", sum := "2d4fb90dcbc8611d898fea2264a0ff2ec338a53cf08e8519596c941403950738", func := "haymow/haymowlaw13.CellNone", spec := "cellNone", unfollowed := true, recurses := true, apart := false, narrowed := true }
def CellNoneUptoSaid : Prop := cellNoneUptoRow.holds Try.pinned (OpenSpec.upto cellNoneSpec)

/-- 'haymowlaw13.CellAlone', WHERE WHAT IT READS IS OF BULK AT MOST 1048576: true; the input reads as it did. -/
def cellAloneUptoRow : OpenClaim := { program := "ytglifjecihmbhaa", sum := "2d4fb90dcbc8611d898fea2264a0ff2ec338a53cf08e8519596c941403950738", func := "haymow/haymowlaw13.CellAlone", spec := "cellAlone", unfollowed := true, recurses := true, apart := false, narrowed := true }
def CellAloneUptoSaid : Prop := cellAloneUptoRow.holds Try.pinned (OpenSpec.upto cellAloneSpec)

/-- 'haymowlaw13.CellChain', WHERE WHAT IT READS IS OF BULK AT MOST 1048576: true; the input reads as it did. -/
def cellChainUptoRow : OpenClaim := { program := "ytglifjecihmbhaa", sum := "2d4fb90dcbc8611d898fea2264a0ff2ec338a53cf08e8519596c941403950738", func := "haymow/haymowlaw13.CellChain", spec := "cellChain", unfollowed := true, recurses := true, apart := false, narrowed := true }
def CellChainUptoSaid : Prop := cellChainUptoRow.holds Try.pinned (OpenSpec.upto cellChainSpec)

end Rows
end Go.Proofs.Ytglifjecihmbhaa
