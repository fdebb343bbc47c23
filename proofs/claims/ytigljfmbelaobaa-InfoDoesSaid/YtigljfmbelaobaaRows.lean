/-
  No cell of these rows narrows 'for every input' (looked for: loops, veiled, ifaces, maps, wideKeys, modest, calm, conditions, laid).
  DERIVED. THE GIVEN ROWS OF THIS SEAT. 3 by the template 'for every input the law returns true; each argument reads behind the call as it read before'; 0 by the template 'total and deterministic' (their statements: YtigljfmbelaobaaTotals.lean).
  GIVEN WITH THE SEED: the statements are not yours to turn. If you find one false, say at which input.
  Laid BY PROGRAM, IN A SANDBOX (cutbox-rows.mjs): the forced cells as the released guide's own fill.sh prints them over the translation 0df9c539acd13167… (all of the seat's roots in one cut). By AI agents, Wed Nov 11 2026. No macro, syntax, notation, axiom, sorry.
-/
import Derived.Test.YtigljfmbelaobaaChecked
import GoSem.Claim
import GoSem.ClaimJoined
import GoSem.ClaimMapViews
import Derived.JoinedTies
import Derived.KernelRfl
namespace Go.Proofs.Ytigljfmbelaobaa
/- THE CELL 'sum', in the pinned program and in every row, IS THE sha256 OF THE DUMP (.gsa) THAT YtigljfmbelaobaaProg.lean LOADS. Nothing in Lean hashes anything: it is a label: what it is worth is what the hold of that sum in a sandbox is worth. -/
noncomputable def Try.pinned : Pinned := { name := "ytigljfmbelaobaa", sum := "0df9c539acd131678be31f1acc4badd675e8c5193f94cd6adbf45529f4e121a5", checked := Try.checked }
namespace Rows
def none {H : Type} : Left H := { results := [], args := [] }

/-- 'vinculumlaw14.InfoDoes': WHATEVER THE INPUT: true; the input reads as it did. -/
def infoDoesSpec : ChangeSpec := { name := "infoDoes", fn := fun _ => fun
  | [d1, d2, d3, d4] => { results := [.lit (.bool true)], args := [d1, d2, d3, d4] }
  | _ => none }
def infoDoesRow : OpenClaim := { program := "ytigljfmbelaobaa", sum := "0df9c539acd131678be31f1acc4badd675e8c5193f94cd6adbf45529f4e121a5", func := "vinculum/vinculumlaw14.InfoDoes", spec := "infoDoes", inPlace := ["internal/abi.NoEscape"], unfollowed := true, recurses := true, apart := false }
def InfoDoesSaid : Prop := infoDoesRow.holds Try.pinned (OpenSpec.ofChange infoDoesSpec)

/-- ITS FALSE NEIGHBOUR: 'it returns false'. Refute it at one input. -/
def infoDoesWrong : ChangeSpec := { name := "infoDoes", fn := fun _ => fun
  | [d1, d2, d3, d4] => { results := [.lit (.bool false)], args := [d1, d2, d3, d4] }
  | _ => none }
def InfoDoesWrongFalsely : Prop := infoDoesRow.holds Try.pinned (OpenSpec.ofChange infoDoesWrong)

/-- 'vinculumlaw14.InfoBack': WHATEVER THE INPUT: true; the input reads as it did. -/
def infoBackSpec : ChangeSpec := { name := "infoBack", fn := fun _ => fun
  | [d1, d2, d3] => { results := [.lit (.bool true)], args := [d1, d2, d3] }
  | _ => none }
def infoBackRow : OpenClaim := { program := "ytigljfmbelaobaa", sum := "0df9c539acd131678be31f1acc4badd675e8c5193f94cd6adbf45529f4e121a5", func := "vinculum/vinculumlaw14.InfoBack", spec := "infoBack", inPlace := ["internal/abi.NoEscape"], unfollowed := true, recurses := true, apart := false }
def InfoBackSaid : Prop := infoBackRow.holds Try.pinned (OpenSpec.ofChange infoBackSpec)

/-- ITS FALSE NEIGHBOUR: 'it returns false'. Refute it at one input. -/
def infoBackWrong : ChangeSpec := { name := "infoBack", fn := fun _ => fun
  | [d1, d2, d3] => { results := [.lit (.bool false)], args := [d1, d2, d3] }
  | _ => none }
def InfoBackWrongFalsely : Prop := infoBackRow.holds Try.pinned (OpenSpec.ofChange infoBackWrong)

/-- 'vinculumlaw14.InfoOnly': WHATEVER THE INPUT: true; the input reads as it did. -/
def infoOnlySpec : ChangeSpec := { name := "infoOnly", fn := fun _ => fun
  | [d1, d2] => { results := [.lit (.bool true)], args := [d1, d2] }
  | _ => none }
def infoOnlyRow : OpenClaim := { program := "ytigljfmbelaobaa", sum := "0df9c539acd131678be31f1acc4badd675e8c5193f94cd6adbf45529f4e121a5", func := "vinculum/vinculumlaw14.InfoOnly", spec := "infoOnly", inPlace := ["internal/abi.NoEscape"], unfollowed := true, recurses := true, apart := false }
def InfoOnlySaid : Prop := infoOnlyRow.holds Try.pinned (OpenSpec.ofChange infoOnlySpec)

/-- ITS FALSE NEIGHBOUR: 'it returns false'. Refute it at one input. -/
def infoOnlyWrong : ChangeSpec := { name := "infoOnly", fn := fun _ => fun
  | [d1, d2] => { results := [.lit (.bool false)], args := [d1, d2] }
  | _ => none }
def InfoOnlyWrongFalsely : Prop := infoOnlyRow.holds Try.pinned (OpenSpec.ofChange infoOnlyWrong)

/- THE SECOND FORM. 'bulk': how many values and letters a reading holds, each counted each time it is reached (what is shared counts as often as it is met; a slice's spare places count too). A statement '..UptoSaid' is the law's where the arguments, and the package variables that the reading takes, are together of bulk at most 1048576: NARROWER than '..Said'. Prove '..Said' where nothing that the law and all that it calls make is longer than what came in: it says more and counts as full. Else prove '..UptoSaid'. A law counts once. -/
mutual
def uptoBulk {H : Type} : DataW H → Nat
  | .lit (.string bytes) => bytes.length + 1
  | .lit _ => 1
  | .nil => 1
  | .ptr d => uptoBulk d + 1
  | .slice elems spare => uptoBulkAll elems + uptoBulkAll spare + 1
  | .agg parts => uptoBulkAll parts + 1
  | .iface _ d => uptoBulk d + 1
  | .map entries => uptoBulkEntries entries + 1
  | .held _ => 1
def uptoBulkAll {H : Type} : List (DataW H) → Nat
  | [] => 0
  | d :: r => uptoBulk d + uptoBulkAll r
def uptoBulkEntries {H : Type} : List (Lit × DataW H) → Nat
  | [] => 0
  | x :: r => uptoBulkEntry x + uptoBulkEntries r
def uptoBulkEntry {H : Type} : Lit × DataW H → Nat
  | (.string bytes, d) => bytes.length + uptoBulk d + 1
  | (_, d) => uptoBulk d + 1
 end
def uptoSmall : (H : Type) → List (DataW H) → Bool := fun _ ds => decide (uptoBulkAll ds ≤ 1048576)
def OpenSpec.upto (s : _root_.Go.ChangeSpec) : _root_.Go.OpenSpec := { _root_.Go.OpenSpec.ofChange s with cond := some uptoSmall }

/-- 'vinculumlaw14.InfoDoes', WHERE WHAT IT READS IS OF BULK AT MOST 1048576: true; the input reads as it did. -/
def infoDoesUptoRow : OpenClaim := { program := "ytigljfmbelaobaa", sum := "0df9c539acd131678be31f1acc4badd675e8c5193f94cd6adbf45529f4e121a5", func := "vinculum/vinculumlaw14.InfoDoes", spec := "infoDoes", inPlace := ["internal/abi.NoEscape"], unfollowed := true, recurses := true, apart := false, narrowed := true }
def InfoDoesUptoSaid : Prop := infoDoesUptoRow.holds Try.pinned (OpenSpec.upto infoDoesSpec)

/-- 'vinculumlaw14.InfoBack', WHERE WHAT IT READS IS OF BULK AT MOST 1048576: true; the input reads as it did. -/
def infoBackUptoRow : OpenClaim := { program := "ytigljfmbelaobaa", sum := "0df9c539acd131678be31f1acc4badd675e8c5193f94cd6adbf45529f4e121a5", func := "vinculum/vinculumlaw14.InfoBack", spec := "infoBack", inPlace := ["internal/abi.NoEscape"], unfollowed := true, recurses := true, apart := false, narrowed := true }
def InfoBackUptoSaid : Prop := infoBackUptoRow.holds Try.pinned (OpenSpec.upto infoBackSpec)

/-- 'vinculumlaw14.InfoOnly', WHERE WHAT IT READS IS OF BULK AT MOST 1048576: true; the input reads as it did. -/
def infoOnlyUptoRow : OpenClaim := { program := "ytigljfmbelaobaa", sum := "0df9c539acd131678be31f1acc4badd675e8c5193f94cd6adbf45529f4e121a5", func := "vinculum/vinculumlaw14.InfoOnly", spec := "infoOnly", inPlace := ["internal/abi.NoEscape"], unfollowed := true, recurses := true, apart := false, narrowed := true }
def InfoOnlyUptoSaid : Prop := infoOnlyUptoRow.holds Try.pinned (OpenSpec.upto infoOnlySpec)

end Rows
end Go.Proofs.Ytigljfmbelaobaa
