/-
  No cell of these rows narrows 'for every input' (looked for: loops, veiled, ifaces, maps, wideKeys, modest, calm, conditions, laid).
  DERIVED. THE GIVEN ROWS OF THIS SEAT. 15 by the template 'for every input the law returns true; each argument reads behind the call as it read before'; 0 by the template 'total and deterministic' (their statements: YtgpegcbhmobdhaaTotals.lean).
  GIVEN WITH THE SEED: the statements are not yours to turn. If you find one false, say at which input.
  Laid BY PROGRAM, IN A SANDBOX (cutbox-rows.mjs): the forced cells as the released guide's own fill.sh prints them over the translation d738f6a8d3a48446… (all of the seat's roots in one cut). By AI agents, Wed Nov 11 2026. No macro, syntax, notation, axiom, sorry.
-/
import Derived.Test.YtgpegcbhmobdhaaChecked
import GoSem.Claim
import GoSem.ClaimJoined
import GoSem.ClaimMapViews
import Derived.JoinedTies
import Derived.KernelRfl
namespace Go.Proofs.Ytgpegcbhmobdhaa
/- THE CELL 'sum', in the pinned program and in every row, IS THE sha256 OF THE DUMP (.gsa) THAT YtgpegcbhmobdhaaProg.lean LOADS. Nothing in Lean hashes anything: it is a label: what it is worth is what the hold of that sum in a sandbox is worth. -/
noncomputable def Try.pinned : Pinned := { name := "ytgpegcbhmobdhaa", sum := "d738f6a8d3a48446daec71077c1cdada297bfe41dcecd3919e4a7d09c41a290e", checked := Try.checked }
namespace Rows
def none {H : Type} : Left H := { results := [], args := [] }

/-- 'shoringlaw04.ArenaPages': WHATEVER THE INPUT: true; the input reads as it did. -/
def arenaPagesSpec : ChangeSpec := { name := "arenaPages", fn := fun _ => fun
  | [d1, d2] => { results := [.lit (.bool true)], args := [d1, d2] }
  | _ => none }
def arenaPagesRow : OpenClaim := { program := "ytgpegcbhmobdhaa", sum := "d738f6a8d3a48446daec71077c1cdada297bfe41dcecd3919e4a7d09c41a290e", func := "shoring/shoringlaw04.ArenaPages", spec := "arenaPages", apart := false }
def ArenaPagesSaid : Prop := arenaPagesRow.holds Try.pinned (OpenSpec.ofChange arenaPagesSpec)

/-- ITS FALSE NEIGHBOUR: 'it returns false'. Refute it at one input. -/
def arenaPagesWrong : ChangeSpec := { name := "arenaPages", fn := fun _ => fun
  | [d1, d2] => { results := [.lit (.bool false)], args := [d1, d2] }
  | _ => none }
def ArenaPagesWrongFalsely : Prop := arenaPagesRow.holds Try.pinned (OpenSpec.ofChange arenaPagesWrong)

/-- 'shoringlaw04.ArenaNew': WHATEVER THE INPUT: true; the input reads as it did. -/
def arenaNewSpec : ChangeSpec := { name := "arenaNew", fn := fun _ => fun
  | [d] => { results := [.lit (.bool true)], args := [d] }
  | _ => none }
def arenaNewRow : OpenClaim := { program := "ytgpegcbhmobdhaa", sum := "d738f6a8d3a48446daec71077c1cdada297bfe41dcecd3919e4a7d09c41a290e", func := "shoring/shoringlaw04.ArenaNew", spec := "arenaNew", apart := false }
def ArenaNewSaid : Prop := arenaNewRow.holds Try.pinned (OpenSpec.ofChange arenaNewSpec)

/-- ITS FALSE NEIGHBOUR: 'it returns false'. Refute it at one input. -/
def arenaNewWrong : ChangeSpec := { name := "arenaNew", fn := fun _ => fun
  | [d] => { results := [.lit (.bool false)], args := [d] }
  | _ => none }
def ArenaNewWrongFalsely : Prop := arenaNewRow.holds Try.pinned (OpenSpec.ofChange arenaNewWrong)

/-- 'shoringlaw01.NumUps': WHATEVER THE INPUT: true; the input reads as it did. -/
def numUpsSpec : ChangeSpec := { name := "numUps", fn := fun _ => fun
  | [d] => { results := [.lit (.bool true)], args := [d] }
  | _ => none }
def numUpsRow : OpenClaim := { program := "ytgpegcbhmobdhaa", sum := "d738f6a8d3a48446daec71077c1cdada297bfe41dcecd3919e4a7d09c41a290e", func := "shoring/shoringlaw01.NumUps", spec := "numUps", unfollowed := true, recurses := true, apart := false }
def NumUpsSaid : Prop := numUpsRow.holds Try.pinned (OpenSpec.ofChange numUpsSpec)

/-- ITS FALSE NEIGHBOUR: 'it returns false'. Refute it at one input. -/
def numUpsWrong : ChangeSpec := { name := "numUps", fn := fun _ => fun
  | [d] => { results := [.lit (.bool false)], args := [d] }
  | _ => none }
def NumUpsWrongFalsely : Prop := numUpsRow.holds Try.pinned (OpenSpec.ofChange numUpsWrong)

/-- 'shoringlaw01.NumAll': WHATEVER THE INPUT: true; the input reads as it did. -/
def numAllSpec : ChangeSpec := { name := "numAll", fn := fun _ => fun
  | [d] => { results := [.lit (.bool true)], args := [d] }
  | _ => none }
def numAllRow : OpenClaim := { program := "ytgpegcbhmobdhaa", sum := "d738f6a8d3a48446daec71077c1cdada297bfe41dcecd3919e4a7d09c41a290e", func := "shoring/shoringlaw01.NumAll", spec := "numAll", unfollowed := true, recurses := true, apart := false }
def NumAllSaid : Prop := numAllRow.holds Try.pinned (OpenSpec.ofChange numAllSpec)

/-- ITS FALSE NEIGHBOUR: 'it returns false'. Refute it at one input. -/
def numAllWrong : ChangeSpec := { name := "numAll", fn := fun _ => fun
  | [d] => { results := [.lit (.bool false)], args := [d] }
  | _ => none }
def NumAllWrongFalsely : Prop := numAllRow.holds Try.pinned (OpenSpec.ofChange numAllWrong)

/-- 'shoringlaw01.NumOrders': WHATEVER THE INPUT: true; the input reads as it did. -/
def numOrdersSpec : ChangeSpec := { name := "numOrders", fn := fun _ => fun
  | [d] => { results := [.lit (.bool true)], args := [d] }
  | _ => none }
def numOrdersRow : OpenClaim := { program := "ytgpegcbhmobdhaa", sum := "d738f6a8d3a48446daec71077c1cdada297bfe41dcecd3919e4a7d09c41a290e", func := "shoring/shoringlaw01.NumOrders", spec := "numOrders", unfollowed := true, recurses := true, apart := false }
def NumOrdersSaid : Prop := numOrdersRow.holds Try.pinned (OpenSpec.ofChange numOrdersSpec)

/-- ITS FALSE NEIGHBOUR: 'it returns false'. Refute it at one input. -/
def numOrdersWrong : ChangeSpec := { name := "numOrders", fn := fun _ => fun
  | [d] => { results := [.lit (.bool false)], args := [d] }
  | _ => none }
def NumOrdersWrongFalsely : Prop := numOrdersRow.holds Try.pinned (OpenSpec.ofChange numOrdersWrong)

/-- 'shoringlaw04.ArenaMoves': WHATEVER THE INPUT: true; the input reads as it did. -/
def arenaMovesSpec : ChangeSpec := { name := "arenaMoves", fn := fun _ => fun
  | [d1, d2, d3] => { results := [.lit (.bool true)], args := [d1, d2, d3] }
  | _ => none }
def arenaMovesRow : OpenClaim := { program := "ytgpegcbhmobdhaa", sum := "d738f6a8d3a48446daec71077c1cdada297bfe41dcecd3919e4a7d09c41a290e", func := "shoring/shoringlaw04.ArenaMoves", spec := "arenaMoves", apart := false }
def ArenaMovesSaid : Prop := arenaMovesRow.holds Try.pinned (OpenSpec.ofChange arenaMovesSpec)

/-- ITS FALSE NEIGHBOUR: 'it returns false'. Refute it at one input. -/
def arenaMovesWrong : ChangeSpec := { name := "arenaMoves", fn := fun _ => fun
  | [d1, d2, d3] => { results := [.lit (.bool false)], args := [d1, d2, d3] }
  | _ => none }
def ArenaMovesWrongFalsely : Prop := arenaMovesRow.holds Try.pinned (OpenSpec.ofChange arenaMovesWrong)

/-- 'shoringlaw18.PolicyGrows': WHATEVER THE INPUT: true; the input reads as it did. -/
def policyGrowsSpec : ChangeSpec := { name := "policyGrows", fn := fun _ => fun
  | [d1, d2, d3, d4] => { results := [.lit (.bool true)], args := [d1, d2, d3, d4] }
  | _ => none }
def policyGrowsRow : OpenClaim := { program := "ytgpegcbhmobdhaa", sum := "d738f6a8d3a48446daec71077c1cdada297bfe41dcecd3919e4a7d09c41a290e", func := "shoring/shoringlaw18.PolicyGrows", spec := "policyGrows", unfollowed := true, recurses := true, apart := false }
def PolicyGrowsSaid : Prop := policyGrowsRow.holds Try.pinned (OpenSpec.ofChange policyGrowsSpec)

/-- ITS FALSE NEIGHBOUR: 'it returns false'. Refute it at one input. -/
def policyGrowsWrong : ChangeSpec := { name := "policyGrows", fn := fun _ => fun
  | [d1, d2, d3, d4] => { results := [.lit (.bool false)], args := [d1, d2, d3, d4] }
  | _ => none }
def PolicyGrowsWrongFalsely : Prop := policyGrowsRow.holds Try.pinned (OpenSpec.ofChange policyGrowsWrong)

/-- 'shoringlaw18.PolicyLimits': WHATEVER THE INPUT: true; the input reads as it did. -/
def policyLimitsSpec : ChangeSpec := { name := "policyLimits", fn := fun _ => fun
  | [d] => { results := [.lit (.bool true)], args := [d] }
  | _ => none }
def policyLimitsRow : OpenClaim := { program := "ytgpegcbhmobdhaa", sum := "d738f6a8d3a48446daec71077c1cdada297bfe41dcecd3919e4a7d09c41a290e", func := "shoring/shoringlaw18.PolicyLimits", spec := "policyLimits", unfollowed := true, recurses := true, apart := false }
def PolicyLimitsSaid : Prop := policyLimitsRow.holds Try.pinned (OpenSpec.ofChange policyLimitsSpec)

/-- ITS FALSE NEIGHBOUR: 'it returns false'. Refute it at one input. -/
def policyLimitsWrong : ChangeSpec := { name := "policyLimits", fn := fun _ => fun
  | [d] => { results := [.lit (.bool false)], args := [d] }
  | _ => none }
def PolicyLimitsWrongFalsely : Prop := policyLimitsRow.holds Try.pinned (OpenSpec.ofChange policyLimitsWrong)

/-- 'shoringlaw04.ArenaPlays': WHATEVER THE INPUT: true; the input reads as it did. -/
def arenaPlaysSpec : ChangeSpec := { name := "arenaPlays", fn := fun _ => fun
  | [d1, d2] => { results := [.lit (.bool true)], args := [d1, d2] }
  | _ => none }
def arenaPlaysRow : OpenClaim := { program := "ytgpegcbhmobdhaa", sum := "d738f6a8d3a48446daec71077c1cdada297bfe41dcecd3919e4a7d09c41a290e", func := "shoring/shoringlaw04.ArenaPlays", spec := "arenaPlays", apart := false }
def ArenaPlaysSaid : Prop := arenaPlaysRow.holds Try.pinned (OpenSpec.ofChange arenaPlaysSpec)

/-- ITS FALSE NEIGHBOUR: 'it returns false'. Refute it at one input. -/
def arenaPlaysWrong : ChangeSpec := { name := "arenaPlays", fn := fun _ => fun
  | [d1, d2] => { results := [.lit (.bool false)], args := [d1, d2] }
  | _ => none }
def ArenaPlaysWrongFalsely : Prop := arenaPlaysRow.holds Try.pinned (OpenSpec.ofChange arenaPlaysWrong)

/-- 'shoringlaw04.ArenaNil': WHATEVER THE INPUT: true; the input reads as it did. -/
def arenaNilSpec : ChangeSpec := { name := "arenaNil", fn := fun _ => fun
  | [d1, d2, d3] => { results := [.lit (.bool true)], args := [d1, d2, d3] }
  | _ => none }
def arenaNilRow : OpenClaim := { program := "ytgpegcbhmobdhaa", sum := "d738f6a8d3a48446daec71077c1cdada297bfe41dcecd3919e4a7d09c41a290e", func := "shoring/shoringlaw04.ArenaNil", spec := "arenaNil", apart := false }
def ArenaNilSaid : Prop := arenaNilRow.holds Try.pinned (OpenSpec.ofChange arenaNilSpec)

/-- ITS FALSE NEIGHBOUR: 'it returns false'. Refute it at one input. -/
def arenaNilWrong : ChangeSpec := { name := "arenaNil", fn := fun _ => fun
  | [d1, d2, d3] => { results := [.lit (.bool false)], args := [d1, d2, d3] }
  | _ => none }
def ArenaNilWrongFalsely : Prop := arenaNilRow.holds Try.pinned (OpenSpec.ofChange arenaNilWrong)

/-- 'shoringlaw01.NumIs': WHATEVER THE INPUT: true; the input reads as it did. -/
def numIsSpec : ChangeSpec := { name := "numIs", fn := fun _ => fun
  | [d1, d2] => { results := [.lit (.bool true)], args := [d1, d2] }
  | _ => none }
def numIsRow : OpenClaim := { program := "ytgpegcbhmobdhaa", sum := "d738f6a8d3a48446daec71077c1cdada297bfe41dcecd3919e4a7d09c41a290e", func := "shoring/shoringlaw01.NumIs", spec := "numIs", unfollowed := true, recurses := true, apart := false }
def NumIsSaid : Prop := numIsRow.holds Try.pinned (OpenSpec.ofChange numIsSpec)

/-- ITS FALSE NEIGHBOUR: 'it returns false'. Refute it at one input. -/
def numIsWrong : ChangeSpec := { name := "numIs", fn := fun _ => fun
  | [d1, d2] => { results := [.lit (.bool false)], args := [d1, d2] }
  | _ => none }
def NumIsWrongFalsely : Prop := numIsRow.holds Try.pinned (OpenSpec.ofChange numIsWrong)

/-- 'shoringlaw01.NumDivs': WHATEVER THE INPUT: true; the input reads as it did. -/
def numDivsSpec : ChangeSpec := { name := "numDivs", fn := fun _ => fun
  | [d1, d2] => { results := [.lit (.bool true)], args := [d1, d2] }
  | _ => none }
def numDivsRow : OpenClaim := { program := "ytgpegcbhmobdhaa", sum := "d738f6a8d3a48446daec71077c1cdada297bfe41dcecd3919e4a7d09c41a290e", func := "shoring/shoringlaw01.NumDivs", spec := "numDivs", unfollowed := true, recurses := true, apart := false }
def NumDivsSaid : Prop := numDivsRow.holds Try.pinned (OpenSpec.ofChange numDivsSpec)

/-- ITS FALSE NEIGHBOUR: 'it returns false'. Refute it at one input. -/
def numDivsWrong : ChangeSpec := { name := "numDivs", fn := fun _ => fun
  | [d1, d2] => { results := [.lit (.bool false)], args := [d1, d2] }
  | _ => none }
def NumDivsWrongFalsely : Prop := numDivsRow.holds Try.pinned (OpenSpec.ofChange numDivsWrong)

/-- 'shoringlaw18.PolicyShrinks': WHATEVER THE INPUT: true; the input reads as it did. -/
def policyShrinksSpec : ChangeSpec := { name := "policyShrinks", fn := fun _ => fun
  | [d1, d2] => { results := [.lit (.bool true)], args := [d1, d2] }
  | _ => none }
def policyShrinksRow : OpenClaim := { program := "ytgpegcbhmobdhaa", sum := "d738f6a8d3a48446daec71077c1cdada297bfe41dcecd3919e4a7d09c41a290e", func := "shoring/shoringlaw18.PolicyShrinks", spec := "policyShrinks", unfollowed := true, recurses := true, apart := false }
def PolicyShrinksSaid : Prop := policyShrinksRow.holds Try.pinned (OpenSpec.ofChange policyShrinksSpec)

/-- ITS FALSE NEIGHBOUR: 'it returns false'. Refute it at one input. -/
def policyShrinksWrong : ChangeSpec := { name := "policyShrinks", fn := fun _ => fun
  | [d1, d2] => { results := [.lit (.bool false)], args := [d1, d2] }
  | _ => none }
def PolicyShrinksWrongFalsely : Prop := policyShrinksRow.holds Try.pinned (OpenSpec.ofChange policyShrinksWrong)

/-- 'shoringlaw18.PolicyCalms': WHATEVER THE INPUT: true; the input reads as it did. -/
def policyCalmsSpec : ChangeSpec := { name := "policyCalms", fn := fun _ => fun
  | [d1, d2, d3, d4] => { results := [.lit (.bool true)], args := [d1, d2, d3, d4] }
  | _ => none }
def policyCalmsRow : OpenClaim := { program := "ytgpegcbhmobdhaa", sum := "d738f6a8d3a48446daec71077c1cdada297bfe41dcecd3919e4a7d09c41a290e", func := "shoring/shoringlaw18.PolicyCalms", spec := "policyCalms", unfollowed := true, recurses := true, apart := false }
def PolicyCalmsSaid : Prop := policyCalmsRow.holds Try.pinned (OpenSpec.ofChange policyCalmsSpec)

/-- ITS FALSE NEIGHBOUR: 'it returns false'. Refute it at one input. -/
def policyCalmsWrong : ChangeSpec := { name := "policyCalms", fn := fun _ => fun
  | [d1, d2, d3, d4] => { results := [.lit (.bool false)], args := [d1, d2, d3, d4] }
  | _ => none }
def PolicyCalmsWrongFalsely : Prop := policyCalmsRow.holds Try.pinned (OpenSpec.ofChange policyCalmsWrong)

/-- 'shoringlaw18.PolicyFirst': WHATEVER THE INPUT: true; the input reads as it did. -/
def policyFirstSpec : ChangeSpec := { name := "policyFirst", fn := fun _ => fun
  | [d1, d2] => { results := [.lit (.bool true)], args := [d1, d2] }
  | _ => none }
def policyFirstRow : OpenClaim := { program := "ytgpegcbhmobdhaa", sum := "d738f6a8d3a48446daec71077c1cdada297bfe41dcecd3919e4a7d09c41a290e", func := "shoring/shoringlaw18.PolicyFirst", spec := "policyFirst", unfollowed := true, recurses := true, apart := false }
def PolicyFirstSaid : Prop := policyFirstRow.holds Try.pinned (OpenSpec.ofChange policyFirstSpec)

/-- ITS FALSE NEIGHBOUR: 'it returns false'. Refute it at one input. -/
def policyFirstWrong : ChangeSpec := { name := "policyFirst", fn := fun _ => fun
  | [d1, d2] => { results := [.lit (.bool false)], args := [d1, d2] }
  | _ => none }
def PolicyFirstWrongFalsely : Prop := policyFirstRow.holds Try.pinned (OpenSpec.ofChange policyFirstWrong)

/- THE SECOND FORM. 'bulk': how many values and letters a reading holds, each counted each time it is reached (what is shared counts as often as it is met; a slice's spare places count too). A statement '..UptoSaid' is the law's where the arguments, and the package variables that the reading takes, are together of bulk at most 1048576: NARROWER than '..Said'. Prove '..Said' where nothing that the law and all that it calls make is longer than what came in: it says more and counts as full. Else prove '..UptoSaid'. A law counts once. -/
mutual
def uptoBulk {H : Type} : DataW H → Nat
  | .lit (.string bytes) => bytes.length + 1
  | .lit _ => 1
  | .nil => 1
  | .ptr d => uptoBulk d + 1
  | .slice elems spare => uptoBulkAll elems + uptoBulkAll spare + 1
  | .agg parts => uptoBulkAll parts + 1
  | .iface _ d => uptoBulk d + 1
  | .map entries => uptoBulkEntries entries + 1
  | .held _ => 1
def uptoBulkAll {H : Type} : List (DataW H) → Nat
  | [] => 0
  | d :: r => uptoBulk d + uptoBulkAll r
def uptoBulkEntries {H : Type} : List (Lit × DataW H) → Nat
  | [] => 0
  | x :: r => uptoBulkEntry x + uptoBulkEntries r
def uptoBulkEntry {H : Type} : Lit × DataW H → Nat
  | (.string bytes, d) => bytes.length + uptoBulk d + 1
  | (_, d) => uptoBulk d + 1
 end
def uptoSmall : (H : Type) → List (DataW H) → Bool := fun _ ds => decide (uptoBulkAll ds ≤ 1048576)
def OpenSpec.upto (s : _root_.Go.ChangeSpec) : _root_.Go.OpenSpec := { _root_.Go.OpenSpec.ofChange s with cond := some uptoSmall }

/-- 'shoringlaw04.ArenaPages', WHERE WHAT IT READS IS OF BULK AT MOST 1048576: true; the input reads as it did. -/
def arenaPagesUptoRow : OpenClaim := { program := "ytgpegcbhmobdhaa", sum := "d738f6a8d3a48446daec71077c1cdada297bfe41dcecd3919e4a7d09c41a290e", func := "shoring/shoringlaw04.ArenaPages", spec := "arenaPages", apart := false, narrowed := true }
def ArenaPagesUptoSaid : Prop := arenaPagesUptoRow.holds Try.pinned (OpenSpec.upto arenaPagesSpec)

/-- 'shoringlaw04.ArenaNew', WHERE WHAT IT READS IS OF BULK AT MOST 1048576: true; the input reads as it did. -/
def arenaNewUptoRow : OpenClaim := { program := "ytgpegcbhmobdhaa", sum := "d738f6a8d3a48446daec71077c1cdada297bfe41dcecd3919e4a7d09c41a290e", func := "shoring/shoringlaw04.ArenaNew", spec := "arenaNew", apart := false, narrowed := true }
def ArenaNewUptoSaid : Prop := arenaNewUptoRow.holds Try.pinned (OpenSpec.upto arenaNewSpec)

/-- 'shoringlaw01.NumUps', WHERE WHAT IT READS IS OF BULK AT MOST 1048576: true; the input reads as it did. -/
def numUpsUptoRow : OpenClaim := { program := "ytgpegcbhmobdhaa", sum := "d738f6a8d3a48446daec71077c1cdada297bfe41dcecd3919e4a7d09c41a290e", func := "shoring/shoringlaw01.NumUps", spec := "numUps", unfollowed := true, recurses := true, apart := false, narrowed := true }
def NumUpsUptoSaid : Prop := numUpsUptoRow.holds Try.pinned (OpenSpec.upto numUpsSpec)

/-- 'shoringlaw01.NumAll', WHERE WHAT IT READS IS OF BULK AT MOST 1048576: true; the input reads as it did. -/
def numAllUptoRow : OpenClaim := { program := "ytgpegcbhmobdhaa", sum := "d738f6a8d3a48446daec71077c1cdada297bfe41dcecd3919e4a7d09c41a290e", func := "shoring/shoringlaw01.NumAll", spec := "numAll", unfollowed := true, recurses := true, apart := false, narrowed := true }
def NumAllUptoSaid : Prop := numAllUptoRow.holds Try.pinned (OpenSpec.upto numAllSpec)

/-- 'shoringlaw01.NumOrders', WHERE WHAT IT READS IS OF BULK AT MOST 1048576: true; the input reads as it did. -/
def numOrdersUptoRow : OpenClaim := { program := "ytgpegcbhmobdhaa", sum := "d738f6a8d3a48446daec71077c1cdada297bfe41dcecd3919e4a7d09c41a290e", func := "shoring/shoringlaw01.NumOrders", spec := "numOrders", unfollowed := true, recurses := true, apart := false, narrowed := true }
def NumOrdersUptoSaid : Prop := numOrdersUptoRow.holds Try.pinned (OpenSpec.upto numOrdersSpec)

/-- 'shoringlaw04.ArenaMoves', WHERE WHAT IT READS IS OF BULK AT MOST 1048576: true; the input reads as it did. -/
def arenaMovesUptoRow : OpenClaim := { program := "ytgpegcbhmobdhaa", sum := "d738f6a8d3a48446daec71077c1cdada297bfe41dcecd3919e4a7d09c41a290e", func := "shoring/shoringlaw04.ArenaMoves", spec := "arenaMoves", apart := false, narrowed := true }
def ArenaMovesUptoSaid : Prop := arenaMovesUptoRow.holds Try.pinned (OpenSpec.upto arenaMovesSpec)

/-- 'shoringlaw18.PolicyGrows', WHERE WHAT IT READS IS OF BULK AT MOST 1048576: true; the input reads as it did. -/
def policyGrowsUptoRow : OpenClaim := { program := "ytgpegcbhmobdhaa", sum := "d738f6a8d3a48446daec71077c1cdada297bfe41dcecd3919e4a7d09c41a290e", func := "shoring/shoringlaw18.PolicyGrows", spec := "policyGrows", unfollowed := true, recurses := true, apart := false, narrowed := true }
def PolicyGrowsUptoSaid : Prop := policyGrowsUptoRow.holds Try.pinned (OpenSpec.upto policyGrowsSpec)

/-- 'shoringlaw18.PolicyLimits', WHERE WHAT IT READS IS OF BULK AT MOST 1048576: true; the input reads as it did. -/
def policyLimitsUptoRow : OpenClaim := { program := "ytgpegcbhmobdhaa", sum := "d738f6a8d3a48446daec71077c1cdada297bfe41dcecd3919e4a7d09c41a290e", func := "shoring/shoringlaw18.PolicyLimits", spec := "policyLimits", unfollowed := true, recurses := true, apart := false, narrowed := true }
def PolicyLimitsUptoSaid : Prop := policyLimitsUptoRow.holds Try.pinned (OpenSpec.upto policyLimitsSpec)

/-- 'shoringlaw04.ArenaPlays', WHERE WHAT IT READS IS OF BULK AT MOST 1048576: true; the input reads as it did. -/
def arenaPlaysUptoRow : OpenClaim := { program := "ytgpegcbhmobdhaa", sum := "d738f6a8d3a48446daec71077c1cdada297bfe41dcecd3919e4a7d09c41a290e", func := "shoring/shoringlaw04.ArenaPlays", spec := "arenaPlays", apart := false, narrowed := true }
def ArenaPlaysUptoSaid : Prop := arenaPlaysUptoRow.holds Try.pinned (OpenSpec.upto arenaPlaysSpec)

/-- 'shoringlaw04.ArenaNil', WHERE WHAT IT READS IS OF BULK AT MOST 1048576: true; the input reads as it did. -/
def arenaNilUptoRow : OpenClaim := { program := "ytgpegcbhmobdhaa", sum := "d738f6a8d3a48446daec71077c1cdada297bfe41dcecd3919e4a7d09c41a290e", func := "shoring/shoringlaw04.ArenaNil", spec := "arenaNil", apart := false, narrowed := true }
def ArenaNilUptoSaid : Prop := arenaNilUptoRow.holds Try.pinned (OpenSpec.upto arenaNilSpec)

/-- 'shoringlaw01.NumIs', WHERE WHAT IT READS IS OF BULK AT MOST 1048576: true; the input reads as it did. -/
def numIsUptoRow : OpenClaim := { program := "ytgpegcbhmobdhaa", sum := "d738f6a8d3a48446daec71077c1cdada297bfe41dcecd3919e4a7d09c41a290e", func := "shoring/shoringlaw01.NumIs", spec := "numIs", unfollowed := true, recurses := true, apart := false, narrowed := true }
def NumIsUptoSaid : Prop := numIsUptoRow.holds Try.pinned (OpenSpec.upto numIsSpec)

/-- 'shoringlaw01.NumDivs', WHERE WHAT IT READS IS OF BULK AT MOST 1048576: true; the input reads as it did. -/
def numDivsUptoRow : OpenClaim := { program := "ytgpegcbhmobdhaa", sum := "d738f6a8d3a48446daec71077c1cdada297bfe41dcecd3919e4a7d09c41a290e", func := "shoring/shoringlaw01.NumDivs", spec := "numDivs", unfollowed := true, recurses := true, apart := false, narrowed := true }
def NumDivsUptoSaid : Prop := numDivsUptoRow.holds Try.pinned (OpenSpec.upto numDivsSpec)

/-- 'shoringlaw18.PolicyShrinks', WHERE WHAT IT READS IS OF BULK AT MOST 1048576: true; the input reads as it did. -/
def policyShrinksUptoRow : OpenClaim := { program := "ytgpegcbhmobdhaa", sum := "d738f6a8d3a48446daec71077c1cdada297bfe41dcecd3919e4a7d09c41a290e", func := "shoring/shoringlaw18.PolicyShrinks", spec := "policyShrinks", unfollowed := true, recurses := true, apart := false, narrowed := true }
def PolicyShrinksUptoSaid : Prop := policyShrinksUptoRow.holds Try.pinned (OpenSpec.upto policyShrinksSpec)

/-- 'shoringlaw18.PolicyCalms', WHERE WHAT IT READS IS OF BULK AT MOST 1048576: true; the input reads as it did. -/
def policyCalmsUptoRow : OpenClaim := { program := "ytgpegcbhmobdhaa", sum := "d738f6a8d3a48446daec71077c1cdada297bfe41dcecd3919e4a7d09c41a290e", func := "shoring/shoringlaw18.PolicyCalms", spec := "policyCalms", unfollowed := true, recurses := true, apart := false, narrowed := true }
def PolicyCalmsUptoSaid : Prop := policyCalmsUptoRow.holds Try.pinned (OpenSpec.upto policyCalmsSpec)

/-- 'shoringlaw18.PolicyFirst', WHERE WHAT IT READS IS OF BULK AT MOST 1048576: true; the input reads as it did. -/
def policyFirstUptoRow : OpenClaim := { program := "ytgpegcbhmobdhaa", sum := "d738f6a8d3a48446daec71077c1cdada297bfe41dcecd3919e4a7d09c41a290e", func := "shoring/shoringlaw18.PolicyFirst", spec := "policyFirst", unfollowed := true, recurses := true, apart := false, narrowed := true }
def PolicyFirstUptoSaid : Prop := policyFirstUptoRow.holds Try.pinned (OpenSpec.upto policyFirstSpec)

end Rows
end Go.Proofs.Ytgpegcbhmobdhaa
