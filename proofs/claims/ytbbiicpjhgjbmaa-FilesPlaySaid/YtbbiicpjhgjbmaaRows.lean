/-
  No cell of these rows narrows 'for every input' (looked for: loops, veiled, ifaces, maps, wideKeys, modest, calm, conditions, laid).
  DERIVED. THE GIVEN ROWS OF THIS SEAT. 3 by the template 'for every input the law returns true; each argument reads behind the call as it read before'; 0 by the template 'total and deterministic' (their statements: YtbbiicpjhgjbmaaTotals.lean).
  GIVEN WITH THE SEED: the statements are not yours to turn. If you find one false, say at which input.
  Laid BY PROGRAM, IN A SANDBOX (cutbox-rows.mjs): the forced cells as the released guide's own fill.sh prints them over the translation d25bd2da0ed78ccf… (all of the seat's roots in one cut). By AI agents, Wed Nov 11 2026. No macro, syntax, notation, axiom, sorry.
-/
import Derived.Test.YtbbiicpjhgjbmaaChecked
import GoSem.Claim
import GoSem.ClaimJoined
import GoSem.ClaimMapViews
import Derived.JoinedTies
import Derived.KernelRfl
namespace Go.Proofs.Ytbbiicpjhgjbmaa
/- THE CELL 'sum', in the pinned program and in every row, IS THE sha256 OF THE DUMP (.gsa) THAT YtbbiicpjhgjbmaaProg.lean LOADS. Nothing in Lean hashes anything: it is a label: what it is worth is what the hold of that sum in a sandbox is worth. -/
noncomputable def Try.pinned : Pinned := { name := "ytbbiicpjhgjbmaa", sum := "d25bd2da0ed78ccf71475a6b54005b1461848b91ae723fb027ce0a64cc0095ca", checked := Try.checked }
namespace Rows
def none {H : Type} : Left H := { results := [], args := [] }

/-- 'ashlarlaw22.FilesLeast': WHATEVER THE INPUT: true; the input reads as it did. -/
def filesLeastSpec : ChangeSpec := { name := "filesLeast", fn := fun _ => fun
  | [d1, d2] => { results := [.lit (.bool true)], args := [d1, d2] }
  | _ => none }
def filesLeastRow : OpenClaim := { program := "ytbbiicpjhgjbmaa", sum := "d25bd2da0ed78ccf71475a6b54005b1461848b91ae723fb027ce0a64cc0095ca", func := "ashlar/ashlarlaw22.FilesLeast", spec := "filesLeast", apart := false }
def FilesLeastSaid : Prop := filesLeastRow.holds Try.pinned (OpenSpec.ofChange filesLeastSpec)

/-- ITS FALSE NEIGHBOUR: 'it returns false'. Refute it at one input. -/
def filesLeastWrong : ChangeSpec := { name := "filesLeast", fn := fun _ => fun
  | [d1, d2] => { results := [.lit (.bool false)], args := [d1, d2] }
  | _ => none }
def FilesLeastWrongFalsely : Prop := filesLeastRow.holds Try.pinned (OpenSpec.ofChange filesLeastWrong)

/-- 'ashlarlaw22.FilesPlay': WHATEVER THE INPUT: true; the input reads as it did. -/
def filesPlaySpec : ChangeSpec := { name := "filesPlay", fn := fun _ => fun
  | [d1, d2] => { results := [.lit (.bool true)], args := [d1, d2] }
  | _ => none }
def filesPlayRow : OpenClaim := { program := "ytbbiicpjhgjbmaa", sum := "d25bd2da0ed78ccf71475a6b54005b1461848b91ae723fb027ce0a64cc0095ca", func := "ashlar/ashlarlaw22.FilesPlay", spec := "filesPlay", apart := false }
def FilesPlaySaid : Prop := filesPlayRow.holds Try.pinned (OpenSpec.ofChange filesPlaySpec)

/-- ITS FALSE NEIGHBOUR: 'it returns false'. Refute it at one input. -/
def filesPlayWrong : ChangeSpec := { name := "filesPlay", fn := fun _ => fun
  | [d1, d2] => { results := [.lit (.bool false)], args := [d1, d2] }
  | _ => none }
def FilesPlayWrongFalsely : Prop := filesPlayRow.holds Try.pinned (OpenSpec.ofChange filesPlayWrong)

/-- 'ashlarlaw22.FilesNil': WHATEVER THE INPUT: true; the input reads as it did. -/
def filesNilSpec : ChangeSpec := { name := "filesNil", fn := fun _ => fun
  | [d] => { results := [.lit (.bool true)], args := [d] }
  | _ => none }
def filesNilRow : OpenClaim := { program := "ytbbiicpjhgjbmaa", sum := "d25bd2da0ed78ccf71475a6b54005b1461848b91ae723fb027ce0a64cc0095ca", func := "ashlar/ashlarlaw22.FilesNil", spec := "filesNil", apart := false }
def FilesNilSaid : Prop := filesNilRow.holds Try.pinned (OpenSpec.ofChange filesNilSpec)

/-- ITS FALSE NEIGHBOUR: 'it returns false'. Refute it at one input. -/
def filesNilWrong : ChangeSpec := { name := "filesNil", fn := fun _ => fun
  | [d] => { results := [.lit (.bool false)], args := [d] }
  | _ => none }
def FilesNilWrongFalsely : Prop := filesNilRow.holds Try.pinned (OpenSpec.ofChange filesNilWrong)

/- THE SECOND FORM. 'bulk': how many values and letters a reading holds, each counted each time it is reached (what is shared counts as often as it is met; a slice's spare places count too). A statement '..UptoSaid' is the law's where the arguments, and the package variables that the reading takes, are together of bulk at most 1048576: NARROWER than '..Said'. Prove '..Said' where nothing that the law and all that it calls make is longer than what came in: it says more and counts as full. Else prove '..UptoSaid'. A law counts once. -/
mutual
def uptoBulk {H : Type} : DataW H → Nat
  | .lit (.string bytes) => bytes.length + 1
  | .lit _ => 1
  | .nil => 1
  | .ptr d => uptoBulk d + 1
  | .slice elems spare => uptoBulkAll elems + uptoBulkAll spare + 1
  | .agg parts => uptoBulkAll parts + 1
  | .iface _ d => uptoBulk d + 1
  | .map entries => uptoBulkEntries entries + 1
  | .held _ => 1
def uptoBulkAll {H : Type} : List (DataW H) → Nat
  | [] => 0
  | d :: r => uptoBulk d + uptoBulkAll r
def uptoBulkEntries {H : Type} : List (Lit × DataW H) → Nat
  | [] => 0
  | x :: r => uptoBulkEntry x + uptoBulkEntries r
def uptoBulkEntry {H : Type} : Lit × DataW H → Nat
  | (.string bytes, d) => bytes.length + uptoBulk d + 1
  | (_, d) => uptoBulk d + 1
 end
def uptoSmall : (H : Type) → List (DataW H) → Bool := fun _ ds => decide (uptoBulkAll ds ≤ 1048576)
def OpenSpec.upto (s : _root_.Go.ChangeSpec) : _root_.Go.OpenSpec := { _root_.Go.OpenSpec.ofChange s with cond := some uptoSmall }

/-- 'ashlarlaw22.FilesLeast', WHERE WHAT IT READS IS OF BULK AT MOST 1048576: true; the input reads as it did. -/
def filesLeastUptoRow : OpenClaim := { program := "ytbbiicpjhgjbmaa", sum := "d25bd2da0ed78ccf71475a6b54005b1461848b91ae723fb027ce0a64cc0095ca", func := "ashlar/ashlarlaw22.FilesLeast", spec := "filesLeast", apart := false, narrowed := true }
def FilesLeastUptoSaid : Prop := filesLeastUptoRow.holds Try.pinned (OpenSpec.upto filesLeastSpec)

/-- 'ashlarlaw22.FilesPlay', WHERE WHAT IT READS IS OF BULK AT MOST 1048576: true; the input reads as it did. -/
def filesPlayUptoRow : OpenClaim := { program := "ytbbiicpjhgjbmaa", sum := "d25bd2da0ed78ccf71475a6b54005b1461848b91ae723fb027ce0a64cc0095ca", func := "ashlar/ashlarlaw22.FilesPlay", spec := "filesPlay", apart := false, narrowed := true }
def FilesPlayUptoSaid : Prop := filesPlayUptoRow.holds Try.pinned (OpenSpec.upto filesPlaySpec)

/-- 'ashlarlaw22.FilesNil', WHERE WHAT IT READS IS OF BULK AT MOST 1048576: true; the input reads as it did. -/
def filesNilUptoRow : OpenClaim := { program := "ytbbiicpjhgjbmaa", sum := "d25bd2da0ed78ccf71475a6b54005b1461848b91ae723fb027ce0a64cc0095ca", func := "ashlar/ashlarlaw22.FilesNil", spec := "filesNil", apart := false, narrowed := true }
def FilesNilUptoSaid : Prop := filesNilUptoRow.holds Try.pinned (OpenSpec.upto filesNilSpec)

end Rows
end Go.Proofs.Ytbbiicpjhgjbmaa
