/-
  No cell of these rows narrows 'for every input' (looked for: loops, veiled, ifaces, maps, wideKeys, modest, calm, conditions, laid).
  DERIVED. THE GIVEN ROWS OF THIS SEAT. 6 by the template 'for every input the law returns true; each argument reads behind the call as it read before'; 0 by the template 'total and deterministic' (their statements: YtccadafajocbgaaTotals.lean).
  GIVEN WITH THE SEED: the statements are not yours to turn. If you find one false, say at which input.
  Laid BY PROGRAM, IN A SANDBOX (cutbox-rows.mjs): the forced cells as the released guide's own fill.sh prints them over the translation f65deef96e9a9e00… (all of the seat's roots in one cut). By AI agents, Wed Nov 11 2026. No macro, syntax, notation, axiom, sorry.
-/
import Derived.Test.YtccadafajocbgaaChecked
import GoSem.Claim
import GoSem.ClaimJoined
import GoSem.ClaimMapViews
import Derived.JoinedTies
import Derived.KernelRfl
namespace Go.Proofs.Ytccadafajocbgaa
/- THE CELL 'sum', in the pinned program and in every row, IS THE sha256 OF THE DUMP (.gsa) THAT YtccadafajocbgaaProg.lean LOADS. Nothing in Lean hashes anything: it is a label: what it is worth is what the hold of that sum in a sandbox is worth. -/
noncomputable def Try.pinned : Pinned := { name := "ytccadafajocbgaa", sum := "f65deef96e9a9e008f57cc36e496461fb6d316e04a355daa7e8b6a8675000f8e", checked := Try.checked }
namespace Rows
def none {H : Type} : Left H := { results := [], args := [] }

/-- 'haymowlaw10.PoolActs': WHATEVER THE INPUT: true; the input reads as it did. -/
def poolActsSpec : ChangeSpec := { name := "poolActs", fn := fun _ => fun
  | [d1, d2] => { results := [.lit (.bool true)], args := [d1, d2] }
  | _ => none }
def poolActsRow : OpenClaim := { program := "ytccadafajocbgaa", sum := "f65deef96e9a9e008f57cc36e496461fb6d316e04a355daa7e8b6a8675000f8e", func := "haymow/haymowlaw10.PoolActs", spec := "poolActs", inPlace := ["slices.overlaps[int]"], unfollowed := true, recurses := true, apart := false }
def PoolActsSaid : Prop := poolActsRow.holds Try.pinned (OpenSpec.ofChange poolActsSpec)

/-- ITS FALSE NEIGHBOUR: 'it returns false'. Refute it at one input. -/
def poolActsWrong : ChangeSpec := { name := "poolActs", fn := fun _ => fun
  | [d1, d2] => { results := [.lit (.bool false)], args := [d1, d2] }
  | _ => none }
def PoolActsWrongFalsely : Prop := poolActsRow.holds Try.pinned (OpenSpec.ofChange poolActsWrong)

/-- 'haymowlaw10.PoolKeeps': WHATEVER THE INPUT: true; the input reads as it did. -/
def poolKeepsSpec : ChangeSpec := { name := "poolKeeps", fn := fun _ => fun
  | [d1, d2] => { results := [.lit (.bool true)], args := [d1, d2] }
  | _ => none }
def poolKeepsRow : OpenClaim := { program := "ytccadafajocbgaa", sum := "f65deef96e9a9e008f57cc36e496461fb6d316e04a355daa7e8b6a8675000f8e", func := "haymow/haymowlaw10.PoolKeeps", spec := "poolKeeps", inPlace := ["slices.overlaps[int]"], unfollowed := true, recurses := true, apart := false }
def PoolKeepsSaid : Prop := poolKeepsRow.holds Try.pinned (OpenSpec.ofChange poolKeepsSpec)

/-- ITS FALSE NEIGHBOUR: 'it returns false'. Refute it at one input. -/
def poolKeepsWrong : ChangeSpec := { name := "poolKeeps", fn := fun _ => fun
  | [d1, d2] => { results := [.lit (.bool false)], args := [d1, d2] }
  | _ => none }
def PoolKeepsWrongFalsely : Prop := poolKeepsRow.holds Try.pinned (OpenSpec.ofChange poolKeepsWrong)

/-- 'haymowlaw10.PoolRemote': WHATEVER THE INPUT: true; the input reads as it did. -/
def poolRemoteSpec : ChangeSpec := { name := "poolRemote", fn := fun _ => fun
  | [d1, d2] => { results := [.lit (.bool true)], args := [d1, d2] }
  | _ => none }
def poolRemoteRow : OpenClaim := { program := "ytccadafajocbgaa", sum := "f65deef96e9a9e008f57cc36e496461fb6d316e04a355daa7e8b6a8675000f8e", func := "haymow/haymowlaw10.PoolRemote", spec := "poolRemote", inPlace := ["slices.overlaps[int]"], unfollowed := true, recurses := true, apart := false }
def PoolRemoteSaid : Prop := poolRemoteRow.holds Try.pinned (OpenSpec.ofChange poolRemoteSpec)

/-- ITS FALSE NEIGHBOUR: 'it returns false'. Refute it at one input. -/
def poolRemoteWrong : ChangeSpec := { name := "poolRemote", fn := fun _ => fun
  | [d1, d2] => { results := [.lit (.bool false)], args := [d1, d2] }
  | _ => none }
def PoolRemoteWrongFalsely : Prop := poolRemoteRow.holds Try.pinned (OpenSpec.ofChange poolRemoteWrong)

/-- 'haymowlaw10.PoolApart': WHATEVER THE INPUT: true; the input reads as it did. -/
def poolApartSpec : ChangeSpec := { name := "poolApart", fn := fun _ => fun
  | [d1, d2, d3] => { results := [.lit (.bool true)], args := [d1, d2, d3] }
  | _ => none }
def poolApartRow : OpenClaim := { program := "ytccadafajocbgaa", sum := "f65deef96e9a9e008f57cc36e496461fb6d316e04a355daa7e8b6a8675000f8e", func := "haymow/haymowlaw10.PoolApart", spec := "poolApart", inPlace := ["slices.overlaps[int]"], unfollowed := true, recurses := true, apart := false }
def PoolApartSaid : Prop := poolApartRow.holds Try.pinned (OpenSpec.ofChange poolApartSpec)

/-- ITS FALSE NEIGHBOUR: 'it returns false'. Refute it at one input. -/
def poolApartWrong : ChangeSpec := { name := "poolApart", fn := fun _ => fun
  | [d1, d2, d3] => { results := [.lit (.bool false)], args := [d1, d2, d3] }
  | _ => none }
def PoolApartWrongFalsely : Prop := poolApartRow.holds Try.pinned (OpenSpec.ofChange poolApartWrong)

/-- 'haymowlaw10.PoolPlaces': WHATEVER THE INPUT: true; the input reads as it did. -/
def poolPlacesSpec : ChangeSpec := { name := "poolPlaces", fn := fun _ => fun
  | [d1, d2] => { results := [.lit (.bool true)], args := [d1, d2] }
  | _ => none }
def poolPlacesRow : OpenClaim := { program := "ytccadafajocbgaa", sum := "f65deef96e9a9e008f57cc36e496461fb6d316e04a355daa7e8b6a8675000f8e", func := "haymow/haymowlaw10.PoolPlaces", spec := "poolPlaces", inPlace := ["slices.overlaps[int]"], unfollowed := true, recurses := true, apart := false }
def PoolPlacesSaid : Prop := poolPlacesRow.holds Try.pinned (OpenSpec.ofChange poolPlacesSpec)

/-- ITS FALSE NEIGHBOUR: 'it returns false'. Refute it at one input. -/
def poolPlacesWrong : ChangeSpec := { name := "poolPlaces", fn := fun _ => fun
  | [d1, d2] => { results := [.lit (.bool false)], args := [d1, d2] }
  | _ => none }
def PoolPlacesWrongFalsely : Prop := poolPlacesRow.holds Try.pinned (OpenSpec.ofChange poolPlacesWrong)

/-- 'haymowlaw10.PoolNew': WHATEVER THE INPUT: true; the input reads as it did. -/
def poolNewSpec : ChangeSpec := { name := "poolNew", fn := fun _ => fun
  | [d1, d2] => { results := [.lit (.bool true)], args := [d1, d2] }
  | _ => none }
def poolNewRow : OpenClaim := { program := "ytccadafajocbgaa", sum := "f65deef96e9a9e008f57cc36e496461fb6d316e04a355daa7e8b6a8675000f8e", func := "haymow/haymowlaw10.PoolNew", spec := "poolNew", inPlace := ["slices.overlaps[int]"], unfollowed := true, recurses := true, apart := false }
def PoolNewSaid : Prop := poolNewRow.holds Try.pinned (OpenSpec.ofChange poolNewSpec)

/-- ITS FALSE NEIGHBOUR: 'it returns false'. Refute it at one input. -/
def poolNewWrong : ChangeSpec := { name := "poolNew", fn := fun _ => fun
  | [d1, d2] => { results := [.lit (.bool false)], args := [d1, d2] }
  | _ => none }
def PoolNewWrongFalsely : Prop := poolNewRow.holds Try.pinned (OpenSpec.ofChange poolNewWrong)

/- THE SECOND FORM. 'bulk': how many values and letters a reading holds, each counted each time it is reached (what is shared counts as often as it is met; a slice's spare places count too). A statement '..UptoSaid' is the law's where the arguments, and the package variables that the reading takes, are together of bulk at most 1048576: NARROWER than '..Said'. Prove '..Said' where nothing that the law and all that it calls make is longer than what came in: it says more and counts as full. Else prove '..UptoSaid'. A law counts once. -/
mutual
def uptoBulk {H : Type} : DataW H → Nat
  | .lit (.string bytes) => bytes.length + 1
  | .lit _ => 1
  | .nil => 1
  | .ptr d => uptoBulk d + 1
  | .slice elems spare => uptoBulkAll elems + uptoBulkAll spare + 1
  | .agg parts => uptoBulkAll parts + 1
  | .iface _ d => uptoBulk d + 1
  | .map entries => uptoBulkEntries entries + 1
  | .held _ => 1
def uptoBulkAll {H : Type} : List (DataW H) → Nat
  | [] => 0
  | d :: r => uptoBulk d + uptoBulkAll r
def uptoBulkEntries {H : Type} : List (Lit × DataW H) → Nat
  | [] => 0
  | x :: r => uptoBulkEntry x + uptoBulkEntries r
def uptoBulkEntry {H : Type} : Lit × DataW H → Nat
  | (.string bytes, d) => bytes.length + uptoBulk d + 1
  | (_, d) => uptoBulk d + 1
 end
def uptoSmall : (H : Type) → List (DataW H) → Bool := fun _ ds => decide (uptoBulkAll ds ≤ 1048576)
def OpenSpec.upto (s : _root_.Go.ChangeSpec) : _root_.Go.OpenSpec := { _root_.Go.OpenSpec.ofChange s with cond := some uptoSmall }

/-- 'haymowlaw10.PoolActs', WHERE WHAT IT READS IS OF BULK AT MOST 1048576: true; the input reads as it did. -/
def poolActsUptoRow : OpenClaim := { program := "ytccadafajocbgaa", sum := "f65deef96e9a9e008f57cc36e496461fb6d316e04a355daa7e8b6a8675000f8e", func := "haymow/haymowlaw10.PoolActs", spec := "poolActs", inPlace := ["slices.overlaps[int]"], unfollowed := true, recurses := true, apart := false, narrowed := true }
def PoolActsUptoSaid : Prop := poolActsUptoRow.holds Try.pinned (OpenSpec.upto poolActsSpec)

/-- 'haymowlaw10.PoolKeeps', WHERE WHAT IT READS IS OF BULK AT MOST 1048576: true; the input reads as it did. -/
def poolKeepsUptoRow : OpenClaim := { program := "ytccadafajocbgaa", sum := "f65deef96e9a9e008f57cc36e496461fb6d316e04a355daa7e8b6a8675000f8e", func := "haymow/haymowlaw10.PoolKeeps", spec := "poolKeeps", inPlace := ["slices.overlaps[int]"], unfollowed := true, recurses := true, apart := false, narrowed := true }
def PoolKeepsUptoSaid : Prop := poolKeepsUptoRow.holds Try.pinned (OpenSpec.upto poolKeepsSpec)

/-- 'haymowlaw10.PoolRemote', WHERE WHAT IT READS IS OF BULK AT MOST 1048576: true; the input reads as it did. -/
def poolRemoteUptoRow : OpenClaim := { program := "ytccadafajocbgaa", sum := "f65deef96e9a9e008f57cc36e496461fb6d316e04a355daa7e8b6a8675000f8e", func := "haymow/haymowlaw10.PoolRemote", spec := "poolRemote", inPlace := ["slices.overlaps[int]"], unfollowed := true, recurses := true, apart := false, narrowed := true }
def PoolRemoteUptoSaid : Prop := poolRemoteUptoRow.holds Try.pinned (OpenSpec.upto poolRemoteSpec)

/-- 'haymowlaw10.PoolApart', WHERE WHAT IT READS IS OF BULK AT MOST 1048576: true; the input reads as it did. -/
def poolApartUptoRow : OpenClaim := { program := "ytccadafajocbgaa", sum := "f65deef96e9a9e008f57cc36e496461fb6d316e04a355daa7e8b6a8675000f8e", func := "haymow/haymowlaw10.PoolApart", spec := "poolApart", inPlace := ["slices.overlaps[int]"], unfollowed := true, recurses := true, apart := false, narrowed := true }
def PoolApartUptoSaid : Prop := poolApartUptoRow.holds Try.pinned (OpenSpec.upto poolApartSpec)

/-- 'haymowlaw10.PoolPlaces', WHERE WHAT IT READS IS OF BULK AT MOST 1048576: true; the input reads as it did. -/
def poolPlacesUptoRow : OpenClaim := { program := "ytccadafajocbgaa", sum := "f65deef96e9a9e008f57cc36e496461fb6d316e04a355daa7e8b6a8675000f8e", func := "haymow/haymowlaw10.PoolPlaces", spec := "poolPlaces", inPlace := ["slices.overlaps[int]"], unfollowed := true, recurses := true, apart := false, narrowed := true }
def PoolPlacesUptoSaid : Prop := poolPlacesUptoRow.holds Try.pinned (OpenSpec.upto poolPlacesSpec)

/-- 'haymowlaw10.PoolNew', WHERE WHAT IT READS IS OF BULK AT MOST 1048576: true; the input reads as it did. -/
def poolNewUptoRow : OpenClaim := { program := "ytccadafajocbgaa", sum := "f65deef96e9a9e008f57cc36e496461fb6d316e04a355daa7e8b6a8675000f8e", func := "haymow/haymowlaw10.PoolNew", spec := "poolNew", inPlace := ["slices.overlaps[int]"], unfollowed := true, recurses := true, apart := false, narrowed := true }
def PoolNewUptoSaid : Prop := poolNewUptoRow.holds Try.pinned (OpenSpec.upto poolNewSpec)

end Rows
end Go.Proofs.Ytccadafajocbgaa
