/-
  No cell of these rows narrows 'for every input' (looked for: loops, veiled, ifaces, maps, wideKeys, modest, calm, conditions, laid).
  DERIVED. THE GIVEN ROWS OF THIS SEAT. 7 by the template 'for every input the law returns true; each argument reads behind the call as it read before'; 0 by the template 'total and deterministic' (their statements: YtpbbpineepdeeaaTotals.lean).
  GIVEN WITH THE SEED: the statements are not yours to turn. If you find one false, say at which input.
  Laid BY PROGRAM, IN A SANDBOX (cutbox-rows.mjs): the forced cells as the released guide's own fill.sh prints them over the translation 39e3242e3e2329bb… (all of the seat's roots in one cut). By AI agents, Wed Nov 11 2026. No macro, syntax, notation, axiom, sorry.
-/
import Derived.Test.YtpbbpineepdeeaaChecked
import GoSem.Claim
import GoSem.ClaimJoined
import GoSem.ClaimMapViews
import Derived.JoinedTies
import Derived.KernelRfl
namespace Go.Proofs.Ytpbbpineepdeeaa
/- THE CELL 'sum', in the pinned program and in every row, IS THE sha256 OF THE DUMP (.gsa) THAT YtpbbpineepdeeaaProg.lean LOADS. Nothing in Lean hashes anything: it is a label: what it is worth is what the hold of that sum in a sandbox is worth. -/
noncomputable def Try.pinned : Pinned := { name := "ytpbbpineepdeeaa", sum := "39e3242e3e2329bb4d340df061bda6157573b26ec099ae6c83411f1d8011161a", checked := Try.checked }
namespace Rows
def none {H : Type} : Left H := { results := [], args := [] }

/-- 'haymowlaw01.MemBounds': WHATEVER THE INPUT: true; the input reads as it did. -/
def memBoundsSpec : ChangeSpec := { name := "memBounds", fn := fun _ => fun
  | [d1, d2, d3] => { results := [.lit (.bool true)], args := [d1, d2, d3] }
  | _ => none }
def memBoundsRow : OpenClaim := { program := "ytpbbpineepdeeaa", sum := "39e3242e3e2329bb4d340df061bda6157573b26ec099ae6c83411f1d8011161a", func := "haymow/haymowlaw01.MemBounds", spec := "memBounds", unfollowed := true, recurses := true, apart := false }
def MemBoundsSaid : Prop := memBoundsRow.holds Try.pinned (OpenSpec.ofChange memBoundsSpec)

/-- ITS FALSE NEIGHBOUR: 'it returns false'. Refute it at one input. -/
def memBoundsWrong : ChangeSpec := { name := "memBounds", fn := fun _ => fun
  | [d1, d2, d3] => { results := [.lit (.bool false)], args := [d1, d2, d3] }
  | _ => none }
def MemBoundsWrongFalsely : Prop := memBoundsRow.holds Try.pinned (OpenSpec.ofChange memBoundsWrong)

/-- 'haymowlaw01.MemTags': WHATEVER THE INPUT: true; the input reads as it did. -/
def memTagsSpec : ChangeSpec := { name := "memTags", fn := fun _ => fun
  | [d1, d2, d3] => { results := [.lit (.bool true)], args := [d1, d2, d3] }
  | _ => none }
def memTagsRow : OpenClaim := { program := "ytpbbpineepdeeaa", sum := "39e3242e3e2329bb4d340df061bda6157573b26ec099ae6c83411f1d8011161a", func := "haymow/haymowlaw01.MemTags", spec := "memTags", unfollowed := true, recurses := true, apart := false }
def MemTagsSaid : Prop := memTagsRow.holds Try.pinned (OpenSpec.ofChange memTagsSpec)

/-- ITS FALSE NEIGHBOUR: 'it returns false'. Refute it at one input. -/
def memTagsWrong : ChangeSpec := { name := "memTags", fn := fun _ => fun
  | [d1, d2, d3] => { results := [.lit (.bool false)], args := [d1, d2, d3] }
  | _ => none }
def MemTagsWrongFalsely : Prop := memTagsRow.holds Try.pinned (OpenSpec.ofChange memTagsWrong)

/-- 'haymowlaw01.MemSums': WHATEVER THE INPUT: true; the input reads as it did. -/
def memSumsSpec : ChangeSpec := { name := "memSums", fn := fun _ => fun
  | [d] => { results := [.lit (.bool true)], args := [d] }
  | _ => none }
def memSumsRow : OpenClaim := { program := "ytpbbpineepdeeaa", sum := "39e3242e3e2329bb4d340df061bda6157573b26ec099ae6c83411f1d8011161a", func := "haymow/haymowlaw01.MemSums", spec := "memSums", unfollowed := true, recurses := true, apart := false }
def MemSumsSaid : Prop := memSumsRow.holds Try.pinned (OpenSpec.ofChange memSumsSpec)

/-- ITS FALSE NEIGHBOUR: 'it returns false'. Refute it at one input. -/
def memSumsWrong : ChangeSpec := { name := "memSums", fn := fun _ => fun
  | [d] => { results := [.lit (.bool false)], args := [d] }
  | _ => none }
def MemSumsWrongFalsely : Prop := memSumsRow.holds Try.pinned (OpenSpec.ofChange memSumsWrong)

/-- 'haymowlaw01.MemOwn': WHATEVER THE INPUT: true; the input reads as it did. -/
def memOwnSpec : ChangeSpec := { name := "memOwn", fn := fun _ => fun
  | [d] => { results := [.lit (.bool true)], args := [d] }
  | _ => none }
def memOwnRow : OpenClaim := { program := "ytpbbpineepdeeaa", sum := "39e3242e3e2329bb4d340df061bda6157573b26ec099ae6c83411f1d8011161a", func := "haymow/haymowlaw01.MemOwn", spec := "memOwn", unfollowed := true, recurses := true, apart := false }
def MemOwnSaid : Prop := memOwnRow.holds Try.pinned (OpenSpec.ofChange memOwnSpec)

/-- ITS FALSE NEIGHBOUR: 'it returns false'. Refute it at one input. -/
def memOwnWrong : ChangeSpec := { name := "memOwn", fn := fun _ => fun
  | [d] => { results := [.lit (.bool false)], args := [d] }
  | _ => none }
def MemOwnWrongFalsely : Prop := memOwnRow.holds Try.pinned (OpenSpec.ofChange memOwnWrong)

/-- 'haymowlaw01.MemSwaps': WHATEVER THE INPUT: true; the input reads as it did. -/
def memSwapsSpec : ChangeSpec := { name := "memSwaps", fn := fun _ => fun
  | [d1, d2, d3] => { results := [.lit (.bool true)], args := [d1, d2, d3] }
  | _ => none }
def memSwapsRow : OpenClaim := { program := "ytpbbpineepdeeaa", sum := "39e3242e3e2329bb4d340df061bda6157573b26ec099ae6c83411f1d8011161a", func := "haymow/haymowlaw01.MemSwaps", spec := "memSwaps", unfollowed := true, recurses := true, apart := false }
def MemSwapsSaid : Prop := memSwapsRow.holds Try.pinned (OpenSpec.ofChange memSwapsSpec)

/-- ITS FALSE NEIGHBOUR: 'it returns false'. Refute it at one input. -/
def memSwapsWrong : ChangeSpec := { name := "memSwaps", fn := fun _ => fun
  | [d1, d2, d3] => { results := [.lit (.bool false)], args := [d1, d2, d3] }
  | _ => none }
def MemSwapsWrongFalsely : Prop := memSwapsRow.holds Try.pinned (OpenSpec.ofChange memSwapsWrong)

/-- 'haymowlaw01.MemActs': WHATEVER THE INPUT: true; the input reads as it did. -/
def memActsSpec : ChangeSpec := { name := "memActs", fn := fun _ => fun
  | [d1, d2] => { results := [.lit (.bool true)], args := [d1, d2] }
  | _ => none }
def memActsRow : OpenClaim := { program := "ytpbbpineepdeeaa", sum := "39e3242e3e2329bb4d340df061bda6157573b26ec099ae6c83411f1d8011161a", func := "haymow/haymowlaw01.MemActs", spec := "memActs", unfollowed := true, recurses := true, apart := false }
def MemActsSaid : Prop := memActsRow.holds Try.pinned (OpenSpec.ofChange memActsSpec)

/-- ITS FALSE NEIGHBOUR: 'it returns false'. Refute it at one input. -/
def memActsWrong : ChangeSpec := { name := "memActs", fn := fun _ => fun
  | [d1, d2] => { results := [.lit (.bool false)], args := [d1, d2] }
  | _ => none }
def MemActsWrongFalsely : Prop := memActsRow.holds Try.pinned (OpenSpec.ofChange memActsWrong)

/-- 'haymowlaw01.MemNew': WHATEVER THE INPUT: true; the input reads as it did. -/
def memNewSpec : ChangeSpec := { name := "memNew", fn := fun _ => fun
  | [d1, d2] => { results := [.lit (.bool true)], args := [d1, d2] }
  | _ => none }
def memNewRow : OpenClaim := { program := "ytpbbpineepdeeaa", sum := "39e3242e3e2329bb4d340df061bda6157573b26ec099ae6c83411f1d8011161a", func := "haymow/haymowlaw01.MemNew", spec := "memNew", unfollowed := true, recurses := true, apart := false }
def MemNewSaid : Prop := memNewRow.holds Try.pinned (OpenSpec.ofChange memNewSpec)

/-- ITS FALSE NEIGHBOUR: 'it returns false'. Refute it at one input. -/
def memNewWrong : ChangeSpec := { name := "memNew", fn := fun _ => fun
  | [d1, d2] => { results := [.lit (.bool false)], args := [d1, d2] }
  | _ => none }
def MemNewWrongFalsely : Prop := memNewRow.holds Try.pinned (OpenSpec.ofChange memNewWrong)

/- THE SECOND FORM. 'bulk': how many values and letters a reading holds, each counted each time it is reached (what is shared counts as often as it is met; a slice's spare places count too). A statement '..UptoSaid' is the law's where the arguments, and the package variables that the reading takes, are together of bulk at most 1048576: NARROWER than '..Said'. Prove '..Said' where nothing that the law and all that it calls make is longer than what came in: it says more and counts as full. Else prove '..UptoSaid'. A law counts once. -/
mutual
def uptoBulk {H : Type} : DataW H → Nat
  | .lit (.string bytes) => bytes.length + 1
  | .lit _ => 1
  | .nil => 1
  | .ptr d => uptoBulk d + 1
  | .slice elems spare => uptoBulkAll elems + uptoBulkAll spare + 1
  | .agg parts => uptoBulkAll parts + 1
  | .iface _ d => uptoBulk d + 1
  | .map entries => uptoBulkEntries entries + 1
  | .held _ => 1
def uptoBulkAll {H : Type} : List (DataW H) → Nat
  | [] => 0
  | d :: r => uptoBulk d + uptoBulkAll r
def uptoBulkEntries {H : Type} : List (Lit × DataW H) → Nat
  | [] => 0
  | x :: r => uptoBulkEntry x + uptoBulkEntries r
def uptoBulkEntry {H : Type} : Lit × DataW H → Nat
  | (.string bytes, d) => bytes.length + uptoBulk d + 1
  | (_, d) => uptoBulk d + 1
 end
def uptoSmall : (H : Type) → List (DataW H) → Bool := fun _ ds => decide (uptoBulkAll ds ≤ 1048576)
def OpenSpec.upto (s : _root_.Go.ChangeSpec) : _root_.Go.OpenSpec := { _root_.Go.OpenSpec.ofChange s with cond := some uptoSmall }

/-- 'haymowlaw01.MemBounds', WHERE WHAT IT READS IS OF BULK AT MOST 1048576: true; the input reads as it did. -/
def memBoundsUptoRow : OpenClaim := { program := "ytpbbpineepdeeaa", sum := "39e3242e3e2329bb4d340df061bda6157573b26ec099ae6c83411f1d8011161a", func := "haymow/haymowlaw01.MemBounds", spec := "memBounds", unfollowed := true, recurses := true, apart := false, narrowed := true }
def MemBoundsUptoSaid : Prop := memBoundsUptoRow.holds Try.pinned (OpenSpec.upto memBoundsSpec)

/-- 'haymowlaw01.MemTags', WHERE WHAT IT READS IS OF BULK AT MOST 1048576: true; the input reads as it did. -/
def memTagsUptoRow : OpenClaim := { program := "ytpbbpineepdeeaa", sum := "39e3242e3e2329bb4d340df061bda6157573b26ec099ae6c83411f1d8011161a", func := "haymow/haymowlaw01.MemTags", spec := "memTags", unfollowed := true, recurses := true, apart := false, narrowed := true }
def MemTagsUptoSaid : Prop := memTagsUptoRow.holds Try.pinned (OpenSpec.upto memTagsSpec)

/-- 'haymowlaw01.MemSums', WHERE WHAT IT READS IS OF BULK AT MOST 1048576: true; the input reads as it did. -/
def memSumsUptoRow : OpenClaim := { program := "ytpbbpineepdeeaa", sum := "39e3242e3e2329bb4d340df061bda6157573b26ec099ae6c83411f1d8011161a", func := "haymow/haymowlaw01.MemSums", spec := "memSums", unfollowed := true, recurses := true, apart := false, narrowed := true }
def MemSumsUptoSaid : Prop := memSumsUptoRow.holds Try.pinned (OpenSpec.upto memSumsSpec)

/-- 'haymowlaw01.MemOwn', WHERE WHAT IT READS IS OF BULK AT MOST 1048576: true; the input reads as it did. -/
def memOwnUptoRow : OpenClaim := { program := "ytpbbpineepdeeaa", sum := "39e3242e3e2329bb4d340df061bda6157573b26ec099ae6c83411f1d8011161a", func := "haymow/haymowlaw01.MemOwn", spec := "memOwn", unfollowed := true, recurses := true, apart := false, narrowed := true }
def MemOwnUptoSaid : Prop := memOwnUptoRow.holds Try.pinned (OpenSpec.upto memOwnSpec)

/-- 'haymowlaw01.MemSwaps', WHERE WHAT IT READS IS OF BULK AT MOST 1048576: true; the input reads as it did. -/
def memSwapsUptoRow : OpenClaim := { program := "ytpbbpineepdeeaa", sum := "39e3242e3e2329bb4d340df061bda6157573b26ec099ae6c83411f1d8011161a", func := "haymow/haymowlaw01.MemSwaps", spec := "memSwaps", unfollowed := true, recurses := true, apart := false, narrowed := true }
def MemSwapsUptoSaid : Prop := memSwapsUptoRow.holds Try.pinned (OpenSpec.upto memSwapsSpec)

/-- 'haymowlaw01.MemActs', WHERE WHAT IT READS IS OF BULK AT MOST 1048576: true; the input reads as it did. -/
def memActsUptoRow : OpenClaim := { program := "ytpbbpineepdeeaa", sum := "39e3242e3e2329bb4d340df061bda6157573b26ec099ae6c83411f1d8011161a", func := "haymow/haymowlaw01.MemActs", spec := "memActs", unfollowed := true, recurses := true, apart := false, narrowed := true }
def MemActsUptoSaid : Prop := memActsUptoRow.holds Try.pinned (OpenSpec.upto memActsSpec)

/-- 'haymowlaw01.MemNew', WHERE WHAT IT READS IS OF BULK AT MOST 1048576: true; the input reads as it did. -/
def memNewUptoRow : OpenClaim := { program := "ytpbbpineepdeeaa", sum := "39e3242e3e2329bb4d340df061bda6157573b26ec099ae6c83411f1d8011161a", func := "haymow/haymowlaw01.MemNew", spec := "memNew", unfollowed := true, recurses := true, apart := false, narrowed := true }
def MemNewUptoSaid : Prop := memNewUptoRow.holds Try.pinned (OpenSpec.upto memNewSpec)

end Rows
end Go.Proofs.Ytpbbpineepdeeaa
