/-
  No cell of these rows narrows 'for every input' (looked for: loops, veiled, ifaces, maps, wideKeys, modest, calm, conditions, laid).
  DERIVED. THE GIVEN ROWS OF THIS SEAT. 5 by the template 'for every input the law returns true; each argument reads behind the call as it read before'; 0 by the template 'total and deterministic' (their statements: YtjmjdkimkgclaaaTotals.lean).
  GIVEN WITH THE SEED: the statements are not yours to turn. If you find one false, say at which input.
  Laid BY PROGRAM, IN A SANDBOX (cutbox-rows.mjs): the forced cells as the released guide's own fill.sh prints them over the translation 9d2809ac3cbe9a7f… (all of the seat's roots in one cut). By AI agents, Wed Nov 11 2026. No macro, syntax, notation, axiom, sorry.
-/
import Derived.Test.YtjmjdkimkgclaaaChecked
import GoSem.Claim
import GoSem.ClaimJoined
import GoSem.ClaimMapViews
import Derived.JoinedTies
import Derived.KernelRfl
namespace Go.Proofs.Ytjmjdkimkgclaaa
/- THE CELL 'sum', in the pinned program and in every row, IS THE sha256 OF THE DUMP (.gsa) THAT YtjmjdkimkgclaaaProg.lean LOADS. Nothing in Lean hashes anything: it is a label: what it is worth is what the hold of that sum in a sandbox is worth. -/
noncomputable def Try.pinned : Pinned := { name := "ytjmjdkimkgclaaa", sum := "9d2809ac3cbe9a7f266c7ee85e7b5f8b7422bed670141d1fc5e23adf48ac7864", checked := Try.checked }
namespace Rows
def none {H : Type} : Left H := { results := [], args := [] }

/-- 'shoringlaw06.RunsTurns': WHATEVER THE INPUT: true; the input reads as it did. -/
def runsTurnsSpec : ChangeSpec := { name := "runsTurns", fn := fun _ => fun
  | [d] => { results := [.lit (.bool true)], args := [d] }
  | _ => none }
def runsTurnsRow : OpenClaim := { program := "ytjmjdkimkgclaaa", sum := "9d2809ac3cbe9a7f266c7ee85e7b5f8b7422bed670141d1fc5e23adf48ac7864", func := "shoring/shoringlaw06.RunsTurns", spec := "runsTurns", inPlace := ["slices.overlaps[shoring/api.Run]"], unfollowed := true, recurses := true, apart := false }
def RunsTurnsSaid : Prop := runsTurnsRow.holds Try.pinned (OpenSpec.ofChange runsTurnsSpec)

/-- ITS FALSE NEIGHBOUR: 'it returns false'. Refute it at one input. -/
def runsTurnsWrong : ChangeSpec := { name := "runsTurns", fn := fun _ => fun
  | [d] => { results := [.lit (.bool false)], args := [d] }
  | _ => none }
def RunsTurnsWrongFalsely : Prop := runsTurnsRow.holds Try.pinned (OpenSpec.ofChange runsTurnsWrong)

/-- 'shoringlaw06.RunsPlays': WHATEVER THE INPUT: true; the input reads as it did. -/
def runsPlaysSpec : ChangeSpec := { name := "runsPlays", fn := fun _ => fun
  | [d1, d2, d3] => { results := [.lit (.bool true)], args := [d1, d2, d3] }
  | _ => none }
def runsPlaysRow : OpenClaim := { program := "ytjmjdkimkgclaaa", sum := "9d2809ac3cbe9a7f266c7ee85e7b5f8b7422bed670141d1fc5e23adf48ac7864", func := "shoring/shoringlaw06.RunsPlays", spec := "runsPlays", inPlace := ["slices.overlaps[shoring/api.Run]"], unfollowed := true, recurses := true, apart := false }
def RunsPlaysSaid : Prop := runsPlaysRow.holds Try.pinned (OpenSpec.ofChange runsPlaysSpec)

/-- ITS FALSE NEIGHBOUR: 'it returns false'. Refute it at one input. -/
def runsPlaysWrong : ChangeSpec := { name := "runsPlays", fn := fun _ => fun
  | [d1, d2, d3] => { results := [.lit (.bool false)], args := [d1, d2, d3] }
  | _ => none }
def RunsPlaysWrongFalsely : Prop := runsPlaysRow.holds Try.pinned (OpenSpec.ofChange runsPlaysWrong)

/-- 'shoringlaw06.RunsTight': WHATEVER THE INPUT: true; the input reads as it did. -/
def runsTightSpec : ChangeSpec := { name := "runsTight", fn := fun _ => fun
  | [d1, d2] => { results := [.lit (.bool true)], args := [d1, d2] }
  | _ => none }
def runsTightRow : OpenClaim := { program := "ytjmjdkimkgclaaa", sum := "9d2809ac3cbe9a7f266c7ee85e7b5f8b7422bed670141d1fc5e23adf48ac7864", func := "shoring/shoringlaw06.RunsTight", spec := "runsTight", inPlace := ["slices.overlaps[shoring/api.Run]"], unfollowed := true, recurses := true, apart := false }
def RunsTightSaid : Prop := runsTightRow.holds Try.pinned (OpenSpec.ofChange runsTightSpec)

/-- ITS FALSE NEIGHBOUR: 'it returns false'. Refute it at one input. -/
def runsTightWrong : ChangeSpec := { name := "runsTight", fn := fun _ => fun
  | [d1, d2] => { results := [.lit (.bool false)], args := [d1, d2] }
  | _ => none }
def RunsTightWrongFalsely : Prop := runsTightRow.holds Try.pinned (OpenSpec.ofChange runsTightWrong)

/-- 'shoringlaw06.RunsNil': WHATEVER THE INPUT: true; the input reads as it did. -/
def runsNilSpec : ChangeSpec := { name := "runsNil", fn := fun _ => fun
  | [d1, d2, d3] => { results := [.lit (.bool true)], args := [d1, d2, d3] }
  | _ => none }
def runsNilRow : OpenClaim := { program := "ytjmjdkimkgclaaa", sum := "9d2809ac3cbe9a7f266c7ee85e7b5f8b7422bed670141d1fc5e23adf48ac7864", func := "shoring/shoringlaw06.RunsNil", spec := "runsNil", inPlace := ["slices.overlaps[shoring/api.Run]"], unfollowed := true, recurses := true, apart := false }
def RunsNilSaid : Prop := runsNilRow.holds Try.pinned (OpenSpec.ofChange runsNilSpec)

/-- ITS FALSE NEIGHBOUR: 'it returns false'. Refute it at one input. -/
def runsNilWrong : ChangeSpec := { name := "runsNil", fn := fun _ => fun
  | [d1, d2, d3] => { results := [.lit (.bool false)], args := [d1, d2, d3] }
  | _ => none }
def RunsNilWrongFalsely : Prop := runsNilRow.holds Try.pinned (OpenSpec.ofChange runsNilWrong)

/-- 'shoringlaw06.RunsCuts': WHATEVER THE INPUT: true; the input reads as it did. -/
def runsCutsSpec : ChangeSpec := { name := "runsCuts", fn := fun _ => fun
  | [d1, d2] => { results := [.lit (.bool true)], args := [d1, d2] }
  | _ => none }
def runsCutsRow : OpenClaim := { program := "ytjmjdkimkgclaaa", sum := "9d2809ac3cbe9a7f266c7ee85e7b5f8b7422bed670141d1fc5e23adf48ac7864", func := "shoring/shoringlaw06.RunsCuts", spec := "runsCuts", inPlace := ["slices.overlaps[shoring/api.Run]"], unfollowed := true, recurses := true, apart := false }
def RunsCutsSaid : Prop := runsCutsRow.holds Try.pinned (OpenSpec.ofChange runsCutsSpec)

/-- ITS FALSE NEIGHBOUR: 'it returns false'. Refute it at one input. -/
def runsCutsWrong : ChangeSpec := { name := "runsCuts", fn := fun _ => fun
  | [d1, d2] => { results := [.lit (.bool false)], args := [d1, d2] }
  | _ => none }
def RunsCutsWrongFalsely : Prop := runsCutsRow.holds Try.pinned (OpenSpec.ofChange runsCutsWrong)

/- THE SECOND FORM. 'bulk': how many values and letters a reading holds, each counted each time it is reached (what is shared counts as often as it is met; a slice's spare places count too). A statement '..UptoSaid' is the law's where the arguments, and the package variables that the reading takes, are together of bulk at most 1048576: NARROWER than '..Said'. Prove '..Said' where nothing that the law and all that it calls make is longer than what came in: it says more and counts as full. Else prove '..UptoSaid'. A law counts once. -/
mutual
def uptoBulk {H : Type} : DataW H → Nat
  | .lit (.string bytes) => bytes.length + 1
  | .lit _ => 1
  | .nil => 1
  | .ptr d => uptoBulk d + 1
  | .slice elems spare => uptoBulkAll elems + uptoBulkAll spare + 1
  | .agg parts => uptoBulkAll parts + 1
  | .iface _ d => uptoBulk d + 1
  | .map entries => uptoBulkEntries entries + 1
  | .held _ => 1
def uptoBulkAll {H : Type} : List (DataW H) → Nat
  | [] => 0
  | d :: r => uptoBulk d + uptoBulkAll r
def uptoBulkEntries {H : Type} : List (Lit × DataW H) → Nat
  | [] => 0
  | x :: r => uptoBulkEntry x + uptoBulkEntries r
def uptoBulkEntry {H : Type} : Lit × DataW H → Nat
  | (.string bytes, d) => bytes.length + uptoBulk d + 1
  | (_, d) => uptoBulk d + 1
 end
def uptoSmall : (H : Type) → List (DataW H) → Bool := fun _ ds => decide (uptoBulkAll ds ≤ 1048576)
def OpenSpec.upto (s : _root_.Go.ChangeSpec) : _root_.Go.OpenSpec := { _root_.Go.OpenSpec.ofChange s with cond := some uptoSmall }

/-- 'shoringlaw06.RunsTurns', WHERE WHAT IT READS IS OF BULK AT MOST 1048576: true; the input reads as it did. -/
def runsTurnsUptoRow : OpenClaim := { program := "ytjmjdkimkgclaaa", sum := "9d2809ac3cbe9a7f266c7ee85e7b5f8b7422bed670141d1fc5e23adf48ac7864", func := "shoring/shoringlaw06.RunsTurns", spec := "runsTurns", inPlace := ["slices.overlaps[shoring/api.Run]"], unfollowed := true, recurses := true, apart := false, narrowed := true }
def RunsTurnsUptoSaid : Prop := runsTurnsUptoRow.holds Try.pinned (OpenSpec.upto runsTurnsSpec)

/-- 'shoringlaw06.RunsPlays', WHERE WHAT IT READS IS OF BULK AT MOST 1048576: true; the input reads as it did. -/
def runsPlaysUptoRow : OpenClaim := { program := "ytjmjdkimkgclaaa", sum := "9d2809ac3cbe9a7f266c7ee85e7b5f8b7422bed670141d1fc5e23adf48ac7864", func := "shoring/shoringlaw06.RunsPlays", spec := "runsPlays", inPlace := ["slices.overlaps[shoring/api.Run]"], unfollowed := true, recurses := true, apart := false, narrowed := true }
def RunsPlaysUptoSaid : Prop := runsPlaysUptoRow.holds Try.pinned (OpenSpec.upto runsPlaysSpec)

/-- 'shoringlaw06.RunsTight', WHERE WHAT IT READS IS OF BULK AT MOST 1048576: true; the input reads as it did. -/
def runsTightUptoRow : OpenClaim := { program := "ytjmjdkimkgclaaa", sum := "9d2809ac3cbe9a7f266c7ee85e7b5f8b7422bed670141d1fc5e23adf48ac7864", func := "shoring/shoringlaw06.RunsTight", spec := "runsTight", inPlace := ["slices.overlaps[shoring/api.Run]"], unfollowed := true, recurses := true, apart := false, narrowed := true }
def RunsTightUptoSaid : Prop := runsTightUptoRow.holds Try.pinned (OpenSpec.upto runsTightSpec)

/-- 'shoringlaw06.RunsNil', WHERE WHAT IT READS IS OF BULK AT MOST 1048576: true; the input reads as it did. -/
def runsNilUptoRow : OpenClaim := { program := "ytjmjdkimkgclaaa", sum := "9d2809ac3cbe9a7f266c7ee85e7b5f8b7422bed670141d1fc5e23adf48ac7864", func := "shoring/shoringlaw06.RunsNil", spec := "runsNil", inPlace := ["slices.overlaps[shoring/api.Run]"], unfollowed := true, recurses := true, apart := false, narrowed := true }
def RunsNilUptoSaid : Prop := runsNilUptoRow.holds Try.pinned (OpenSpec.upto runsNilSpec)

/-- 'shoringlaw06.RunsCuts', WHERE WHAT IT READS IS OF BULK AT MOST 1048576: true; the input reads as it did. -/
def runsCutsUptoRow : OpenClaim := { program := "ytjmjdkimkgclaaa", sum := "9d2809ac3cbe9a7f266c7ee85e7b5f8b7422bed670141d1fc5e23adf48ac7864", func := "shoring/shoringlaw06.RunsCuts", spec := "runsCuts", inPlace := ["slices.overlaps[shoring/api.Run]"], unfollowed := true, recurses := true, apart := false, narrowed := true }
def RunsCutsUptoSaid : Prop := runsCutsUptoRow.holds Try.pinned (OpenSpec.upto runsCutsSpec)

end Rows
end Go.Proofs.Ytjmjdkimkgclaaa
