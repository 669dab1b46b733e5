/-
  No cell of these rows narrows 'for every input' (looked for: loops, veiled, ifaces, maps, wideKeys, modest, calm, conditions, laid).
  DERIVED. THE GIVEN ROWS OF THIS SEAT. 3 by the template 'for every input the law returns true; each argument reads behind the call as it read before'; 0 by the template 'total and deterministic' (their statements: YthkbhikiljlgoaaTotals.lean).
  GIVEN WITH THE SEED: the statements are not yours to turn. If you find one false, say at which input.
  Laid BY PROGRAM, IN A SANDBOX (cutbox-rows.mjs): the forced cells as the released guide's own fill.sh prints them over the translation 634a35775583e484… (all of the seat's roots in one cut). By AI agents, Wed Nov 11 2026. No macro, syntax, notation, axiom, sorry.
-/
import Derived.Test.YthkbhikiljlgoaaChecked
import GoSem.Claim
import GoSem.ClaimJoined
import GoSem.ClaimMapViews
import Derived.JoinedTies
import Derived.KernelRfl
namespace Go.Proofs.Ythkbhikiljlgoaa
/- THE CELL 'sum', in the pinned program and in every row, IS THE sha256 OF THE DUMP (.gsa) THAT YthkbhikiljlgoaaProg.lean LOADS. Nothing in Lean hashes anything: it is a label: what it is worth is what the hold of that sum in a sandbox is worth. -/
noncomputable def Try.pinned : Pinned := { name := "ythkbhikiljlgoaa", sum := "634a35775583e484aea86656eb5b3db3afe36cc854d2ef91500e956224b8c446", checked := Try.checked }
namespace Rows
def none {H : Type} : Left H := { results := [], args := [] }

/-- 'shoringlaw07.HeapWhole': WHATEVER THE INPUT: true; the input reads as it did. -/
def heapWholeSpec : ChangeSpec := { name := "heapWhole", fn := fun _ => fun
  | [d1, d2] => { results := [.lit (.bool true)], args := [d1, d2] }
  | _ => none }
def heapWholeRow : OpenClaim := { program := "ythkbhikiljlgoaa", sum := "634a35775583e484aea86656eb5b3db3afe36cc854d2ef91500e956224b8c446", func := "shoring/shoringlaw07.HeapWhole", spec := "heapWhole", inPlace := ["slices.overlaps[shoring/api.Run]"], unfollowed := true, recurses := true, apart := false }
def HeapWholeSaid : Prop := heapWholeRow.holds Try.pinned (OpenSpec.ofChange heapWholeSpec)

/-- ITS FALSE NEIGHBOUR: 'it returns false'. Refute it at one input. -/
def heapWholeWrong : ChangeSpec := { name := "heapWhole", fn := fun _ => fun
  | [d1, d2] => { results := [.lit (.bool false)], args := [d1, d2] }
  | _ => none }
def HeapWholeWrongFalsely : Prop := heapWholeRow.holds Try.pinned (OpenSpec.ofChange heapWholeWrong)

/-- 'shoringlaw07.HeapEnds': WHATEVER THE INPUT: true; the input reads as it did. -/
def heapEndsSpec : ChangeSpec := { name := "heapEnds", fn := fun _ => fun
  | [d1, d2, d3] => { results := [.lit (.bool true)], args := [d1, d2, d3] }
  | _ => none }
def heapEndsRow : OpenClaim := { program := "ythkbhikiljlgoaa", sum := "634a35775583e484aea86656eb5b3db3afe36cc854d2ef91500e956224b8c446", func := "shoring/shoringlaw07.HeapEnds", spec := "heapEnds", inPlace := ["slices.overlaps[shoring/api.Run]"], unfollowed := true, recurses := true, apart := false }
def HeapEndsSaid : Prop := heapEndsRow.holds Try.pinned (OpenSpec.ofChange heapEndsSpec)

/-- ITS FALSE NEIGHBOUR: 'it returns false'. Refute it at one input. -/
def heapEndsWrong : ChangeSpec := { name := "heapEnds", fn := fun _ => fun
  | [d1, d2, d3] => { results := [.lit (.bool false)], args := [d1, d2, d3] }
  | _ => none }
def HeapEndsWrongFalsely : Prop := heapEndsRow.holds Try.pinned (OpenSpec.ofChange heapEndsWrong)

/-- 'shoringlaw07.HeapBack': WHATEVER THE INPUT: true; the input reads as it did. -/
def heapBackSpec : ChangeSpec := { name := "heapBack", fn := fun _ => fun
  | [d1, d2, d3] => { results := [.lit (.bool true)], args := [d1, d2, d3] }
  | _ => none }
def heapBackRow : OpenClaim := { program := "ythkbhikiljlgoaa", sum := "634a35775583e484aea86656eb5b3db3afe36cc854d2ef91500e956224b8c446", func := "shoring/shoringlaw07.HeapBack", spec := "heapBack", inPlace := ["slices.overlaps[shoring/api.Run]"], unfollowed := true, recurses := true, apart := false }
def HeapBackSaid : Prop := heapBackRow.holds Try.pinned (OpenSpec.ofChange heapBackSpec)

/-- ITS FALSE NEIGHBOUR: 'it returns false'. Refute it at one input. -/
def heapBackWrong : ChangeSpec := { name := "heapBack", fn := fun _ => fun
  | [d1, d2, d3] => { results := [.lit (.bool false)], args := [d1, d2, d3] }
  | _ => none }
def HeapBackWrongFalsely : Prop := heapBackRow.holds Try.pinned (OpenSpec.ofChange heapBackWrong)

/- THE SECOND FORM. 'bulk': how many values and letters a reading holds, each counted each time it is reached (what is shared counts as often as it is met; a slice's spare places count too). A statement '..UptoSaid' is the law's where the arguments, and the package variables that the reading takes, are together of bulk at most 1048576: NARROWER than '..Said'. Prove '..Said' where nothing that the law and all that it calls make is longer than what came in: it says more and counts as full. Else prove '..UptoSaid'. A law counts once. -/
mutual
def uptoBulk {H : Type} : DataW H → Nat
  | .lit (.string bytes) => bytes.length + 1
  | .lit _ => 1
  | .nil => 1
  | .ptr d => uptoBulk d + 1
  | .slice elems spare => uptoBulkAll elems + uptoBulkAll spare + 1
  | .agg parts => uptoBulkAll parts + 1
  | .iface _ d => uptoBulk d + 1
  | .map entries => uptoBulkEntries entries + 1
  | .held _ => 1
def uptoBulkAll {H : Type} : List (DataW H) → Nat
  | [] => 0
  | d :: r => uptoBulk d + uptoBulkAll r
def uptoBulkEntries {H : Type} : List (Lit × DataW H) → Nat
  | [] => 0
  | x :: r => uptoBulkEntry x + uptoBulkEntries r
def uptoBulkEntry {H : Type} : Lit × DataW H → Nat
  | (.string bytes, d) => bytes.length + uptoBulk d + 1
  | (_, d) => uptoBulk d + 1
 end
def uptoSmall : (H : Type) → List (DataW H) → Bool := fun _ ds => decide (uptoBulkAll ds ≤ 1048576)
def OpenSpec.upto (s : _root_.Go.ChangeSpec) : _root_.Go.OpenSpec := { _root_.Go.OpenSpec.ofChange s with cond := some uptoSmall }

/-- 'shoringlaw07.HeapWhole', WHERE WHAT IT READS IS OF BULK AT MOST 1048576: true; the input reads as it did. -/
def heapWholeUptoRow : OpenClaim := { program := "ythkbhikiljlgoaa", sum := "634a35775583e484aea86656eb5b3db3afe36cc854d2ef91500e956224b8c446", func := "shoring/shoringlaw07.HeapWhole", spec := "heapWhole", inPlace := ["slices.overlaps[shoring/api.Run]"], unfollowed := true, recurses := true, apart := false, narrowed := true }
def HeapWholeUptoSaid : Prop := heapWholeUptoRow.holds Try.pinned (OpenSpec.upto heapWholeSpec)

/-- 'shoringlaw07.HeapEnds', WHERE WHAT IT READS IS OF BULK AT MOST 1048576: true; the input reads as it did. -/
def heapEndsUptoRow : OpenClaim := { program := "ythkbhikiljlgoaa", sum := "634a35775583e484aea86656eb5b3db3afe36cc854d2ef91500e956224b8c446", func := "shoring/shoringlaw07.HeapEnds", spec := "heapEnds", inPlace := ["slices.overlaps[shoring/api.Run]"], unfollowed := true, recurses := true, apart := false, narrowed := true }
def HeapEndsUptoSaid : Prop := heapEndsUptoRow.holds Try.pinned (OpenSpec.upto heapEndsSpec)

/-- 'shoringlaw07.HeapBack', WHERE WHAT IT READS IS OF BULK AT MOST 1048576: true; the input reads as it did. -/
def heapBackUptoRow : OpenClaim := { program := "ythkbhikiljlgoaa", sum := "634a35775583e484aea86656eb5b3db3afe36cc854d2ef91500e956224b8c446", func := "shoring/shoringlaw07.HeapBack", spec := "heapBack", inPlace := ["slices.overlaps[shoring/api.Run]"], unfollowed := true, recurses := true, apart := false, narrowed := true }
def HeapBackUptoSaid : Prop := heapBackUptoRow.holds Try.pinned (OpenSpec.upto heapBackSpec)

end Rows
end Go.Proofs.Ythkbhikiljlgoaa
