/-
  No cell of these rows narrows 'for every input' (looked for: loops, veiled, ifaces, maps, wideKeys, modest, calm, conditions, laid).
  DERIVED. THE GIVEN ROWS OF THIS SEAT. 4 by the template 'for every input the law returns true; each argument reads behind the call as it read before'; 0 by the template 'total and deterministic' (their statements: YtnehccndghkakaaTotals.lean).
  GIVEN WITH THE SEED: the statements are not yours to turn. If you find one false, say at which input.
  Laid BY PROGRAM, IN A SANDBOX (cutbox-rows.mjs): the forced cells as the released guide's own fill.sh prints them over the translation 4b30ee4053bc719c… (all of the seat's roots in one cut). By AI agents, Wed Nov 11 2026. No macro, syntax, notation, axiom, sorry.
-/
import Derived.Test.YtnehccndghkakaaChecked
import GoSem.Claim
import GoSem.ClaimJoined
import GoSem.ClaimMapViews
import Derived.JoinedTies
import Derived.KernelRfl
namespace Go.Proofs.Ytnehccndghkakaa
/- THE CELL 'sum', in the pinned program and in every row, IS THE sha256 OF THE DUMP (.gsa) THAT YtnehccndghkakaaProg.lean LOADS. Nothing in Lean hashes anything: it is a label: what it is worth is what the hold of that sum in a sandbox is worth. -/
noncomputable def Try.pinned : Pinned := { name := "ytnehccndghkakaa", sum := "4b30ee4053bc719cb50412e23e478100f6af3d69d37435e113225c88a1a536d0", checked := Try.checked }
namespace Rows
def none {H : Type} : Left H := { results := [], args := [] }

/-- 'shoringlaw08.ChainRights': WHATEVER THE INPUT: true; the input reads as it did. -/
def chainRightsSpec : ChangeSpec := { name := "chainRights", fn := fun _ => fun
  | [d1, d2] => { results := [.lit (.bool true)], args := [d1, d2] }
  | _ => none }
def chainRightsRow : OpenClaim := { program := "ytnehccndghkakaa", sum := "4b30ee4053bc719cb50412e23e478100f6af3d69d37435e113225c88a1a536d0", func := "shoring/shoringlaw08.ChainRights", spec := "chainRights", unfollowed := true, recurses := true, apart := false }
def ChainRightsSaid : Prop := chainRightsRow.holds Try.pinned (OpenSpec.ofChange chainRightsSpec)

/-- ITS FALSE NEIGHBOUR: 'it returns false'. Refute it at one input. -/
def chainRightsWrong : ChangeSpec := { name := "chainRights", fn := fun _ => fun
  | [d1, d2] => { results := [.lit (.bool false)], args := [d1, d2] }
  | _ => none }
def ChainRightsWrongFalsely : Prop := chainRightsRow.holds Try.pinned (OpenSpec.ofChange chainRightsWrong)

/-- 'shoringlaw08.ChainLeaves': WHATEVER THE INPUT: true; the input reads as it did. -/
def chainLeavesSpec : ChangeSpec := { name := "chainLeaves", fn := fun _ => fun
  | [d1, d2] => { results := [.lit (.bool true)], args := [d1, d2] }
  | _ => none }
def chainLeavesRow : OpenClaim := { program := "ytnehccndghkakaa", sum := "4b30ee4053bc719cb50412e23e478100f6af3d69d37435e113225c88a1a536d0", func := "shoring/shoringlaw08.ChainLeaves", spec := "chainLeaves", unfollowed := true, recurses := true, apart := false }
def ChainLeavesSaid : Prop := chainLeavesRow.holds Try.pinned (OpenSpec.ofChange chainLeavesSpec)

/-- ITS FALSE NEIGHBOUR: 'it returns false'. Refute it at one input. -/
def chainLeavesWrong : ChangeSpec := { name := "chainLeaves", fn := fun _ => fun
  | [d1, d2] => { results := [.lit (.bool false)], args := [d1, d2] }
  | _ => none }
def ChainLeavesWrongFalsely : Prop := chainLeavesRow.holds Try.pinned (OpenSpec.ofChange chainLeavesWrong)

/-- 'shoringlaw08.ChainLast': WHATEVER THE INPUT: true; the input reads as it did. -/
def chainLastSpec : ChangeSpec := { name := "chainLast", fn := fun _ => fun
  | [d1, d2] => { results := [.lit (.bool true)], args := [d1, d2] }
  | _ => none }
def chainLastRow : OpenClaim := { program := "ytnehccndghkakaa", sum := "4b30ee4053bc719cb50412e23e478100f6af3d69d37435e113225c88a1a536d0", func := "shoring/shoringlaw08.ChainLast", spec := "chainLast", unfollowed := true, recurses := true, apart := false }
def ChainLastSaid : Prop := chainLastRow.holds Try.pinned (OpenSpec.ofChange chainLastSpec)

/-- ITS FALSE NEIGHBOUR: 'it returns false'. Refute it at one input. -/
def chainLastWrong : ChangeSpec := { name := "chainLast", fn := fun _ => fun
  | [d1, d2] => { results := [.lit (.bool false)], args := [d1, d2] }
  | _ => none }
def ChainLastWrongFalsely : Prop := chainLastRow.holds Try.pinned (OpenSpec.ofChange chainLastWrong)

/-- 'shoringlaw08.ChainPlays': WHATEVER THE INPUT: true; the input reads as it did. -/
def chainPlaysSpec : ChangeSpec := { name := "chainPlays", fn := fun _ => fun
  | [d1, d2] => { results := [.lit (.bool true)], args := [d1, d2] }
  | _ => none }
def chainPlaysRow : OpenClaim := { program := "ytnehccndghkakaa", sum := "4b30ee4053bc719cb50412e23e478100f6af3d69d37435e113225c88a1a536d0", func := "shoring/shoringlaw08.ChainPlays", spec := "chainPlays", unfollowed := true, recurses := true, apart := false }
def ChainPlaysSaid : Prop := chainPlaysRow.holds Try.pinned (OpenSpec.ofChange chainPlaysSpec)

/-- ITS FALSE NEIGHBOUR: 'it returns false'. Refute it at one input. -/
def chainPlaysWrong : ChangeSpec := { name := "chainPlays", fn := fun _ => fun
  | [d1, d2] => { results := [.lit (.bool false)], args := [d1, d2] }
  | _ => none }
def ChainPlaysWrongFalsely : Prop := chainPlaysRow.holds Try.pinned (OpenSpec.ofChange chainPlaysWrong)

/- THE SECOND FORM. 'bulk': how many values and letters a reading holds, each counted each time it is reached (what is shared counts as often as it is met; a slice's spare places count too). A statement '..UptoSaid' is the law's where the arguments, and the package variables that the reading takes, are together of bulk at most 1048576: NARROWER than '..Said'. Prove '..Said' where nothing that the law and all that it calls make is longer than what came in: it says more and counts as full. Else prove '..UptoSaid'. A law counts once. -/
mutual
def uptoBulk {H : Type} : DataW H → Nat
  | .lit (.string bytes) => bytes.length + 1
  | .lit _ => 1
  | .nil => 1
  | .ptr d => uptoBulk d + 1
  | .slice elems spare => uptoBulkAll elems + uptoBulkAll spare + 1
  | .agg parts => uptoBulkAll parts + 1
  | .iface _ d => uptoBulk d + 1
  | .map entries => uptoBulkEntries entries + 1
  | .held _ => 1
def uptoBulkAll {H : Type} : List (DataW H) → Nat
  | [] => 0
  | d :: r => uptoBulk d + uptoBulkAll r
def uptoBulkEntries {H : Type} : List (Lit × DataW H) → Nat
  | [] => 0
  | x :: r => uptoBulkEntry x + uptoBulkEntries r
def uptoBulkEntry {H : Type} : Lit × DataW H → Nat
  | (.string bytes, d) => bytes.length + uptoBulk d + 1
  | (_, d) => uptoBulk d + 1
 end
def uptoSmall : (H : Type) → List (DataW H) → Bool := fun _ ds => decide (uptoBulkAll ds ≤ 1048576)
def OpenSpec.upto (s : _root_.Go.ChangeSpec) : _root_.Go.OpenSpec := { _root_.Go.OpenSpec.ofChange s with cond := some uptoSmall }

/-- 'shoringlaw08.ChainRights', WHERE WHAT IT READS IS OF BULK AT MOST 1048576: true; the input reads as it did. -/
def chainRightsUptoRow : OpenClaim := { program := "ytnehccndghkakaa", sum := "4b30ee4053bc719cb50412e23e478100f6af3d69d37435e113225c88a1a536d0", func := "shoring/shoringlaw08.ChainRights", spec := "chainRights", unfollowed := true, recurses := true, apart := false, narrowed := true }
def ChainRightsUptoSaid : Prop := chainRightsUptoRow.holds Try.pinned (OpenSpec.upto chainRightsSpec)

/-- 'shoringlaw08.ChainLeaves', WHERE WHAT IT READS IS OF BULK AT MOST 1048576: true; the input reads as it did. -/
def chainLeavesUptoRow : OpenClaim := { program := "ytnehccndghkakaa", sum := "4b30ee4053bc719cb50412e23e478100f6af3d69d37435e113225c88a1a536d0", func := "shoring/shoringlaw08.ChainLeaves", spec := "chainLeaves", unfollowed := true, recurses := true, apart := false, narrowed := true }
def ChainLeavesUptoSaid : Prop := chainLeavesUptoRow.holds Try.pinned (OpenSpec.upto chainLeavesSpec)

/-- 'shoringlaw08.ChainLast', WHERE WHAT IT READS IS OF BULK AT MOST 1048576: true; the input reads as it did. -/
def chainLastUptoRow : OpenClaim := { program := "ytnehccndghkakaa", sum := "4b30ee4053bc719cb50412e23e478100f6af3d69d37435e113225c88a1a536d0", func := "shoring/shoringlaw08.ChainLast", spec := "chainLast", unfollowed := true, recurses := true, apart := false, narrowed := true }
def ChainLastUptoSaid : Prop := chainLastUptoRow.holds Try.pinned (OpenSpec.upto chainLastSpec)

/-- 'shoringlaw08.ChainPlays', WHERE WHAT IT READS IS OF BULK AT MOST 1048576: true; the input reads as it did. -/
def chainPlaysUptoRow : OpenClaim := { program := "ytnehccndghkakaa", sum := "4b30ee4053bc719cb50412e23e478100f6af3d69d37435e113225c88a1a536d0", func := "shoring/shoringlaw08.ChainPlays", spec := "chainPlays", unfollowed := true, recurses := true, apart := false, narrowed := true }
def ChainPlaysUptoSaid : Prop := chainPlaysUptoRow.holds Try.pinned (OpenSpec.upto chainPlaysSpec)

end Rows
end Go.Proofs.Ytnehccndghkakaa
