/-
  No cell of these rows narrows 'for every input' (looked for: loops, veiled, ifaces, maps, wideKeys, modest, calm, conditions, laid).
  DERIVED. THE GIVEN ROWS OF THIS SEAT. 5 by the template 'for every input the law returns true; each argument reads behind the call as it read before'; 0 by the template 'total and deterministic' (their statements: YtbldidlbhahciaaGreatTotals.lean).
  GIVEN WITH THE SEED: the statements are not yours to turn. If you find one false, say at which input.
  Laid BY PROGRAM, IN A SANDBOX (cutbox-rows.mjs): the forced cells as the released guide's own fill.sh prints them over the translation c9199a39e451b755… (all of the seat's roots in one cut). By AI agents, Wed Nov 11 2026. No macro, syntax, notation, axiom, sorry.
-/
import Derived.Test.YtbldidlbhahciaaGreatChecked
import GoSem.Claim
import GoSem.ClaimJoined
import GoSem.ClaimMapViews
import Derived.JoinedTies
import Derived.KernelRfl
namespace Go.Proofs.YtbldidlbhahciaaGreat
/- THE CELL 'sum', in the pinned program and in every row, IS THE sha256 OF THE DUMP (.gsa) THAT YtbldidlbhahciaaGreatProg.lean LOADS. Nothing in Lean hashes anything: it is a label: what it is worth is what the hold of that sum in a sandbox is worth. -/
noncomputable def Tryz.pinned : Pinned := { name := "ytbldidlbhahciaagreat", sum := "c9199a39e451b75525920984d761ad8ede9ea71b5c9549746b3a5f91b349db56", checked := Tryz.checked }
namespace Rows
def none {H : Type} : Left H := { results := [], args := [] }

/-- 'shoringlaw10.LargeLast': WHATEVER THE INPUT: true; the input reads as it did. -/
def largeLastSpec : ChangeSpec := { name := "largeLast", fn := fun _ => fun
  | [d1, d2, d3] => { results := [.lit (.bool true)], args := [d1, d2, d3] }
  | _ => none }
def largeLastRow : OpenClaim := { program := "ytbldidlbhahciaagreat", sum := "c9199a39e451b75525920984d761ad8ede9ea71b5c9549746b3a5f91b349db56", func := "shoring/shoringlaw10.LargeLast", spec := "largeLast", inPlace := ["slices.overlaps[shoring/api.Run]"], unfollowed := true, recurses := true, apart := false }
def LargeLastSaid : Prop := largeLastRow.holds Tryz.pinned (OpenSpec.ofChange largeLastSpec)

/-- ITS FALSE NEIGHBOUR: 'it returns false'. Refute it at one input. -/
def largeLastWrong : ChangeSpec := { name := "largeLast", fn := fun _ => fun
  | [d1, d2, d3] => { results := [.lit (.bool false)], args := [d1, d2, d3] }
  | _ => none }
def LargeLastWrongFalsely : Prop := largeLastRow.holds Tryz.pinned (OpenSpec.ofChange largeLastWrong)

/-- 'shoringlaw10.LargePlays': WHATEVER THE INPUT: true; the input reads as it did. -/
def largePlaysSpec : ChangeSpec := { name := "largePlays", fn := fun _ => fun
  | [d1, d2, d3] => { results := [.lit (.bool true)], args := [d1, d2, d3] }
  | _ => none }
def largePlaysRow : OpenClaim := { program := "ytbldidlbhahciaagreat", sum := "c9199a39e451b75525920984d761ad8ede9ea71b5c9549746b3a5f91b349db56", func := "shoring/shoringlaw10.LargePlays", spec := "largePlays", inPlace := ["slices.overlaps[shoring/api.Run]"], unfollowed := true, recurses := true, apart := false }
def LargePlaysSaid : Prop := largePlaysRow.holds Tryz.pinned (OpenSpec.ofChange largePlaysSpec)

/-- ITS FALSE NEIGHBOUR: 'it returns false'. Refute it at one input. -/
def largePlaysWrong : ChangeSpec := { name := "largePlays", fn := fun _ => fun
  | [d1, d2, d3] => { results := [.lit (.bool false)], args := [d1, d2, d3] }
  | _ => none }
def LargePlaysWrongFalsely : Prop := largePlaysRow.holds Tryz.pinned (OpenSpec.ofChange largePlaysWrong)

/-- 'shoringlaw10.LargeHolds': WHATEVER THE INPUT: true; the input reads as it did. -/
def largeHoldsSpec : ChangeSpec := { name := "largeHolds", fn := fun _ => fun
  | [d1, d2] => { results := [.lit (.bool true)], args := [d1, d2] }
  | _ => none }
def largeHoldsRow : OpenClaim := { program := "ytbldidlbhahciaagreat", sum := "c9199a39e451b75525920984d761ad8ede9ea71b5c9549746b3a5f91b349db56", func := "shoring/shoringlaw10.LargeHolds", spec := "largeHolds", inPlace := ["slices.overlaps[shoring/api.Run]"], unfollowed := true, recurses := true, apart := false }
def LargeHoldsSaid : Prop := largeHoldsRow.holds Tryz.pinned (OpenSpec.ofChange largeHoldsSpec)

/-- ITS FALSE NEIGHBOUR: 'it returns false'. Refute it at one input. -/
def largeHoldsWrong : ChangeSpec := { name := "largeHolds", fn := fun _ => fun
  | [d1, d2] => { results := [.lit (.bool false)], args := [d1, d2] }
  | _ => none }
def LargeHoldsWrongFalsely : Prop := largeHoldsRow.holds Tryz.pinned (OpenSpec.ofChange largeHoldsWrong)

/-- 'shoringlaw10.LargeNil': WHATEVER THE INPUT: true; the input reads as it did. -/
def largeNilSpec : ChangeSpec := { name := "largeNil", fn := fun _ => fun
  | [d1, d2] => { results := [.lit (.bool true)], args := [d1, d2] }
  | _ => none }
def largeNilRow : OpenClaim := { program := "ytbldidlbhahciaagreat", sum := "c9199a39e451b75525920984d761ad8ede9ea71b5c9549746b3a5f91b349db56", func := "shoring/shoringlaw10.LargeNil", spec := "largeNil", inPlace := ["slices.overlaps[shoring/api.Run]"], unfollowed := true, recurses := true, apart := false }
def LargeNilSaid : Prop := largeNilRow.holds Tryz.pinned (OpenSpec.ofChange largeNilSpec)

/-- ITS FALSE NEIGHBOUR: 'it returns false'. Refute it at one input. -/
def largeNilWrong : ChangeSpec := { name := "largeNil", fn := fun _ => fun
  | [d1, d2] => { results := [.lit (.bool false)], args := [d1, d2] }
  | _ => none }
def LargeNilWrongFalsely : Prop := largeNilRow.holds Tryz.pinned (OpenSpec.ofChange largeNilWrong)

/-- 'shoringlaw10.LargeEnds': WHATEVER THE INPUT: true; the input reads as it did. -/
def largeEndsSpec : ChangeSpec := { name := "largeEnds", fn := fun _ => fun
  | [d1, d2, d3, d4] => { results := [.lit (.bool true)], args := [d1, d2, d3, d4] }
  | _ => none }
def largeEndsRow : OpenClaim := { program := "ytbldidlbhahciaagreat", sum := "c9199a39e451b75525920984d761ad8ede9ea71b5c9549746b3a5f91b349db56", func := "shoring/shoringlaw10.LargeEnds", spec := "largeEnds", inPlace := ["slices.overlaps[shoring/api.Run]"], unfollowed := true, recurses := true, apart := false }
def LargeEndsSaid : Prop := largeEndsRow.holds Tryz.pinned (OpenSpec.ofChange largeEndsSpec)

/-- ITS FALSE NEIGHBOUR: 'it returns false'. Refute it at one input. -/
def largeEndsWrong : ChangeSpec := { name := "largeEnds", fn := fun _ => fun
  | [d1, d2, d3, d4] => { results := [.lit (.bool false)], args := [d1, d2, d3, d4] }
  | _ => none }
def LargeEndsWrongFalsely : Prop := largeEndsRow.holds Tryz.pinned (OpenSpec.ofChange largeEndsWrong)

/- THE SECOND FORM. 'bulk': how many values and letters a reading holds, each counted each time it is reached (what is shared counts as often as it is met; a slice's spare places count too). A statement '..UptoSaid' is the law's where the arguments, and the package variables that the reading takes, are together of bulk at most 1048576: NARROWER than '..Said'. Prove '..Said' where nothing that the law and all that it calls make is longer than what came in: it says more and counts as full. Else prove '..UptoSaid'. A law counts once. -/
mutual
def uptoBulk {H : Type} : DataW H → Nat
  | .lit (.string bytes) => bytes.length + 1
  | .lit _ => 1
  | .nil => 1
  | .ptr d => uptoBulk d + 1
  | .slice elems spare => uptoBulkAll elems + uptoBulkAll spare + 1
  | .agg parts => uptoBulkAll parts + 1
  | .iface _ d => uptoBulk d + 1
  | .map entries => uptoBulkEntries entries + 1
  | .held _ => 1
def uptoBulkAll {H : Type} : List (DataW H) → Nat
  | [] => 0
  | d :: r => uptoBulk d + uptoBulkAll r
def uptoBulkEntries {H : Type} : List (Lit × DataW H) → Nat
  | [] => 0
  | x :: r => uptoBulkEntry x + uptoBulkEntries r
def uptoBulkEntry {H : Type} : Lit × DataW H → Nat
  | (.string bytes, d) => bytes.length + uptoBulk d + 1
  | (_, d) => uptoBulk d + 1
 end
def uptoSmall : (H : Type) → List (DataW H) → Bool := fun _ ds => decide (uptoBulkAll ds ≤ 1048576)
def OpenSpec.upto (s : _root_.Go.ChangeSpec) : _root_.Go.OpenSpec := { _root_.Go.OpenSpec.ofChange s with cond := some uptoSmall }

/-- 'shoringlaw10.LargeLast', WHERE WHAT IT READS IS OF BULK AT MOST 1048576: true; the input reads as it did. -/
def largeLastUptoRow : OpenClaim := { program := "ytbldidlbhahciaagreat", sum := "c9199a39e451b75525920984d761ad8ede9ea71b5c9549746b3a5f91b349db56", func := "shoring/shoringlaw10.LargeLast", spec := "largeLast", inPlace := ["slices.overlaps[shoring/api.Run]"], unfollowed := true, recurses := true, apart := false, narrowed := true }
def LargeLastUptoSaid : Prop := largeLastUptoRow.holds Tryz.pinned (OpenSpec.upto largeLastSpec)

/-- 'shoringlaw10.LargePlays', WHERE WHAT IT READS IS OF BULK AT MOST 1048576: true; the input reads as it did. -/
def largePlaysUptoRow : OpenClaim := { program := "ytbldidlbhahciaagreat", sum := "c9199a39e451b75525920984d761ad8ede9ea71b5c9549746b3a5f91b349db56", func := "shoring/shoringlaw10.LargePlays", spec := "largePlays", inPlace := ["slices.overlaps[shoring/api.Run]"], unfollowed := true, recurses := true, apart := false, narrowed := true }
def LargePlaysUptoSaid : Prop := largePlaysUptoRow.holds Tryz.pinned (OpenSpec.upto largePlaysSpec)

/-- 'shoringlaw10.LargeHolds', WHERE WHAT IT READS IS OF BULK AT MOST 1048576: true; the input reads as it did. -/
def largeHoldsUptoRow : OpenClaim := { program := "ytbldidlbhahciaagreat", sum := "c9199a39e451b75525920984d761ad8ede9ea71b5c9549746b3a5f91b349db56", func := "shoring/shoringlaw10.LargeHolds", spec := "largeHolds", inPlace := ["slices.overlaps[shoring/api.Run]"], unfollowed := true, recurses := true, apart := false, narrowed := true }
def LargeHoldsUptoSaid : Prop := largeHoldsUptoRow.holds Tryz.pinned (OpenSpec.upto largeHoldsSpec)

/-- 'shoringlaw10.LargeNil', WHERE WHAT IT READS IS OF BULK AT MOST 1048576: true; the input reads as it did. -/
def largeNilUptoRow : OpenClaim := { program := "ytbldidlbhahciaagreat", sum := "c9199a39e451b75525920984d761ad8ede9ea71b5c9549746b3a5f91b349db56", func := "shoring/shoringlaw10.LargeNil", spec := "largeNil", inPlace := ["slices.overlaps[shoring/api.Run]"], unfollowed := true, recurses := true, apart := false, narrowed := true }
def LargeNilUptoSaid : Prop := largeNilUptoRow.holds Tryz.pinned (OpenSpec.upto largeNilSpec)

/-- 'shoringlaw10.LargeEnds', WHERE WHAT IT READS IS OF BULK AT MOST 1048576: true; the input reads as it did. -/
def largeEndsUptoRow : OpenClaim := { program := "ytbldidlbhahciaagreat", sum := "c9199a39e451b75525920984d761ad8ede9ea71b5c9549746b3a5f91b349db56", func := "shoring/shoringlaw10.LargeEnds", spec := "largeEnds", inPlace := ["slices.overlaps[shoring/api.Run]"], unfollowed := true, recurses := true, apart := false, narrowed := true }
def LargeEndsUptoSaid : Prop := largeEndsUptoRow.holds Tryz.pinned (OpenSpec.upto largeEndsSpec)

end Rows
end Go.Proofs.YtbldidlbhahciaaGreat
