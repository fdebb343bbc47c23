/-
  No cell of these rows narrows 'for every input' (looked for: loops, veiled, ifaces, maps, wideKeys, modest, calm, conditions, laid).
  DERIVED. THE GIVEN ROWS OF THIS SEAT. 4 by the template 'for every input the law returns true; each argument reads behind the call as it read before'; 0 by the template 'total and deterministic' (their statements: YtdbjnmdpbnomcaaTotals.lean).
  GIVEN WITH THE SEED: the statements are not yours to turn. If you find one false, say at which input.
  Laid BY PROGRAM, IN A SANDBOX (cutbox-rows.mjs): the forced cells as the released guide's own fill.sh prints them over the translation 4c18fd6121acb4b3… (all of the seat's roots in one cut). By AI agents, Wed Nov 11 2026. No macro, syntax, notation, axiom, sorry.
-/
import Derived.Test.YtdbjnmdpbnomcaaChecked
import GoSem.Claim
import GoSem.ClaimJoined
import GoSem.ClaimMapViews
import Derived.JoinedTies
import Derived.KernelRfl
namespace Go.Proofs.Ytdbjnmdpbnomcaa
/- THE CELL 'sum', in the pinned program and in every row, IS THE sha256 OF THE DUMP (.gsa) THAT YtdbjnmdpbnomcaaProg.lean LOADS. Nothing in Lean hashes anything: it is a label: what it is worth is what the hold of that sum in a sandbox is worth. -/
noncomputable def Try.pinned : Pinned := { name := "ytdbjnmdpbnomcaa", sum := "4c18fd6121acb4b3a1b2bb2230850b593d817f898da131ec5c5cd64d298d1e7d", checked := Try.checked }
namespace Rows
def none {H : Type} : Left H := { results := [], args := [] }

/-- 'vinculumlaw12.CoverDoes': WHATEVER THE INPUT: true; the input reads as it did. -/
def coverDoesSpec : ChangeSpec := { name := "coverDoes", fn := fun _ => fun
  | [d1, d2, d3, d4] => { results := [.lit (.bool true)], args := [d1, d2, d3, d4] }
  | _ => none }
def coverDoesRow : OpenClaim := { program := "ytdbjnmdpbnomcaa", sum := "4c18fd6121acb4b3a1b2bb2230850b593d817f898da131ec5c5cd64d298d1e7d", func := "vinculum/vinculumlaw12.CoverDoes", spec := "coverDoes", inPlace := ["internal/abi.NoEscape"], unfollowed := true, recurses := true, apart := false }
def CoverDoesSaid : Prop := coverDoesRow.holds Try.pinned (OpenSpec.ofChange coverDoesSpec)

/-- ITS FALSE NEIGHBOUR: 'it returns false'. Refute it at one input. -/
def coverDoesWrong : ChangeSpec := { name := "coverDoes", fn := fun _ => fun
  | [d1, d2, d3, d4] => { results := [.lit (.bool false)], args := [d1, d2, d3, d4] }
  | _ => none }
def CoverDoesWrongFalsely : Prop := coverDoesRow.holds Try.pinned (OpenSpec.ofChange coverDoesWrong)

/-- 'vinculumlaw12.CoverBack': WHATEVER THE INPUT: true; the input reads as it did. -/
def coverBackSpec : ChangeSpec := { name := "coverBack", fn := fun _ => fun
  | [d1, d2, d3] => { results := [.lit (.bool true)], args := [d1, d2, d3] }
  | _ => none }
def coverBackRow : OpenClaim := { program := "ytdbjnmdpbnomcaa", sum := "4c18fd6121acb4b3a1b2bb2230850b593d817f898da131ec5c5cd64d298d1e7d", func := "vinculum/vinculumlaw12.CoverBack", spec := "coverBack", inPlace := ["internal/abi.NoEscape"], unfollowed := true, recurses := true, apart := false }
def CoverBackSaid : Prop := coverBackRow.holds Try.pinned (OpenSpec.ofChange coverBackSpec)

/-- ITS FALSE NEIGHBOUR: 'it returns false'. Refute it at one input. -/
def coverBackWrong : ChangeSpec := { name := "coverBack", fn := fun _ => fun
  | [d1, d2, d3] => { results := [.lit (.bool false)], args := [d1, d2, d3] }
  | _ => none }
def CoverBackWrongFalsely : Prop := coverBackRow.holds Try.pinned (OpenSpec.ofChange coverBackWrong)

/-- 'vinculumlaw12.CoverOnly': WHATEVER THE INPUT: true; the input reads as it did. -/
def coverOnlySpec : ChangeSpec := { name := "coverOnly", fn := fun _ => fun
  | [d1, d2] => { results := [.lit (.bool true)], args := [d1, d2] }
  | _ => none }
def coverOnlyRow : OpenClaim := { program := "ytdbjnmdpbnomcaa", sum := "4c18fd6121acb4b3a1b2bb2230850b593d817f898da131ec5c5cd64d298d1e7d", func := "vinculum/vinculumlaw12.CoverOnly", spec := "coverOnly", inPlace := ["internal/abi.NoEscape"], unfollowed := true, recurses := true, apart := false }
def CoverOnlySaid : Prop := coverOnlyRow.holds Try.pinned (OpenSpec.ofChange coverOnlySpec)

/-- ITS FALSE NEIGHBOUR: 'it returns false'. Refute it at one input. -/
def coverOnlyWrong : ChangeSpec := { name := "coverOnly", fn := fun _ => fun
  | [d1, d2] => { results := [.lit (.bool false)], args := [d1, d2] }
  | _ => none }
def CoverOnlyWrongFalsely : Prop := coverOnlyRow.holds Try.pinned (OpenSpec.ofChange coverOnlyWrong)

/-- 'vinculumlaw12.CoverFinds': WHATEVER THE INPUT: true; the input reads as it did. -/
def coverFindsSpec : ChangeSpec := { name := "coverFinds", fn := fun _ => fun
  | [d1, d2] => { results := [.lit (.bool true)], args := [d1, d2] }
  | _ => none }
def coverFindsRow : OpenClaim := { program := "ytdbjnmdpbnomcaa", sum := "4c18fd6121acb4b3a1b2bb2230850b593d817f898da131ec5c5cd64d298d1e7d", func := "vinculum/vinculumlaw12.CoverFinds", spec := "coverFinds", inPlace := ["internal/abi.NoEscape"], unfollowed := true, recurses := true, apart := false }
def CoverFindsSaid : Prop := coverFindsRow.holds Try.pinned (OpenSpec.ofChange coverFindsSpec)

/-- ITS FALSE NEIGHBOUR: 'it returns false'. Refute it at one input. -/
def coverFindsWrong : ChangeSpec := { name := "coverFinds", fn := fun _ => fun
  | [d1, d2] => { results := [.lit (.bool false)], args := [d1, d2] }
  | _ => none }
def CoverFindsWrongFalsely : Prop := coverFindsRow.holds Try.pinned (OpenSpec.ofChange coverFindsWrong)

/- THE SECOND FORM. 'bulk': how many values and letters a reading holds, each counted each time it is reached (what is shared counts as often as it is met; a slice's spare places count too). A statement '..UptoSaid' is the law's where the arguments, and the package variables that the reading takes, are together of bulk at most 1048576: NARROWER than '..Said'. Prove '..Said' where nothing that the law and all that it calls make is longer than what came in: it says more and counts as full. Else prove '..UptoSaid'. A law counts once. -/
mutual
def uptoBulk {H : Type} : DataW H → Nat
  | .lit (.string bytes) => bytes.length + 1
  | .lit _ => 1
  | .nil => 1
  | .ptr d => uptoBulk d + 1
  | .slice elems spare => uptoBulkAll elems + uptoBulkAll spare + 1
  | .agg parts => uptoBulkAll parts + 1
  | .iface _ d => uptoBulk d + 1
  | .map entries => uptoBulkEntries entries + 1
  | .held _ => 1
def uptoBulkAll {H : Type} : List (DataW H) → Nat
  | [] => 0
  | d :: r => uptoBulk d + uptoBulkAll r
def uptoBulkEntries {H : Type} : List (Lit × DataW H) → Nat
  | [] => 0
  | x :: r => uptoBulkEntry x + uptoBulkEntries r
def uptoBulkEntry {H : Type} : Lit × DataW H → Nat
  | (.string bytes, d) => bytes.length + uptoBulk d + 1
  | (_, d) => uptoBulk d + 1
 end
def uptoSmall : (H : Type) → List (DataW H) → Bool := fun _ ds => decide (uptoBulkAll ds ≤ 1048576)
def OpenSpec.upto (s : _root_.Go.ChangeSpec) : _root_.Go.OpenSpec := { _root_.Go.OpenSpec.ofChange s with cond := some uptoSmall }

/-- 'vinculumlaw12.CoverDoes', WHERE WHAT IT READS IS OF BULK AT MOST 1048576: true; the input reads as it did. -/
def coverDoesUptoRow : OpenClaim := { program := "ytdbjnmdpbnomcaa", sum := "4c18fd6121acb4b3a1b2bb2230850b593d817f898da131ec5c5cd64d298d1e7d", func := "vinculum/vinculumlaw12.CoverDoes", spec := "coverDoes", inPlace := ["internal/abi.NoEscape"], unfollowed := true, recurses := true, apart := false, narrowed := true }
def CoverDoesUptoSaid : Prop := coverDoesUptoRow.holds Try.pinned (OpenSpec.upto coverDoesSpec)

/-- 'vinculumlaw12.CoverBack', WHERE WHAT IT READS IS OF BULK AT MOST 1048576: true; the input reads as it did. -/
def coverBackUptoRow : OpenClaim := { program := "ytdbjnmdpbnomcaa", sum := "4c18fd6121acb4b3a1b2bb2230850b593d817f898da131ec5c5cd64d298d1e7d", func := "vinculum/vinculumlaw12.CoverBack", spec := "coverBack", inPlace := ["internal/abi.NoEscape"], unfollowed := true, recurses := true, apart := false, narrowed := true }
def CoverBackUptoSaid : Prop := coverBackUptoRow.holds Try.pinned (OpenSpec.upto coverBackSpec)

/-- 'vinculumlaw12.CoverOnly', WHERE WHAT IT READS IS OF BULK AT MOST 1048576: true; the input reads as it did. -/
def coverOnlyUptoRow : OpenClaim := { program := "ytdbjnmdpbnomcaa", sum := "4c18fd6121acb4b3a1b2bb2230850b593d817f898da131ec5c5cd64d298d1e7d", func := "vinculum/vinculumlaw12.CoverOnly", spec := "coverOnly", inPlace := ["internal/abi.NoEscape"], unfollowed := true, recurses := true, apart := false, narrowed := true }
def CoverOnlyUptoSaid : Prop := coverOnlyUptoRow.holds Try.pinned (OpenSpec.upto coverOnlySpec)

/-- 'vinculumlaw12.CoverFinds', WHERE WHAT IT READS IS OF BULK AT MOST 1048576: true; the input reads as it did. -/
def coverFindsUptoRow : OpenClaim := { program := "ytdbjnmdpbnomcaa", sum := "4c18fd6121acb4b3a1b2bb2230850b593d817f898da131ec5c5cd64d298d1e7d", func := "vinculum/vinculumlaw12.CoverFinds", spec := "coverFinds", inPlace := ["internal/abi.NoEscape"], unfollowed := true, recurses := true, apart := false, narrowed := true }
def CoverFindsUptoSaid : Prop := coverFindsUptoRow.holds Try.pinned (OpenSpec.upto coverFindsSpec)

end Rows
end Go.Proofs.Ytdbjnmdpbnomcaa
