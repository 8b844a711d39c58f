/-
  No cell of these rows narrows 'for every input' (looked for: loops, veiled, ifaces, maps, wideKeys, modest, calm, conditions, laid).
  DERIVED. THE GIVEN ROWS OF THIS SEAT. 5 by the template 'for every input the law returns true; each argument reads behind the call as it read before'; 0 by the template 'total and deterministic' (their statements: YtghhjmdolmadeaaTotals.lean).
  GIVEN WITH THE SEED: the statements are not yours to turn. If you find one false, say at which input.
  Laid BY PROGRAM, IN A SANDBOX (cutbox-rows.mjs): the forced cells as the released guide's own fill.sh prints them over the translation 8a0563cb476fae4c… (all of the seat's roots in one cut). By AI agents, Wed Nov 11 2026. No macro, syntax, notation, axiom, sorry.
-/
import Derived.Test.YtghhjmdolmadeaaChecked
import GoSem.Claim
import GoSem.ClaimJoined
import GoSem.ClaimMapViews
import Derived.JoinedTies
import Derived.KernelRfl
namespace Go.Proofs.Ytghhjmdolmadeaa
/- THE CELL 'sum', in the pinned program and in every row, IS THE sha256 OF THE DUMP (.gsa) THAT YtghhjmdolmadeaaProg.lean LOADS. Nothing in Lean hashes anything: it is a label: what it is worth is what the hold of that sum in a sandbox is worth. -/
noncomputable def Try.pinned : Pinned := { name := "ytghhjmdolmadeaa", sum := "8a0563cb476fae4c1d7cee046197f85677870aabf66fbbe075f1eb5959660a57", checked := Try.checked }
namespace Rows
def none {H : Type} : Left H := { results := [], args := [] }

/-- 'doormanlaw05.CellPlays': WHATEVER THE INPUT: true; the input reads as it did. -/
def cellPlaysSpec : ChangeSpec := { name := "cellPlays", fn := fun _ => fun
  | [d1, d2] => { results := [.lit (.bool true)], args := [d1, d2] }
  | _ => none }
def cellPlaysRow : OpenClaim := { program := "ytghhjmdolmadeaa", sum := "8a0563cb476fae4c1d7cee046197f85677870aabf66fbbe075f1eb5959660a57", func := "doorman/doormanlaw05.CellPlays", spec := "cellPlays", apart := false }
def CellPlaysSaid : Prop := cellPlaysRow.holds Try.pinned (OpenSpec.ofChange cellPlaysSpec)

/-- ITS FALSE NEIGHBOUR: 'it returns false'. Refute it at one input. -/
def cellPlaysWrong : ChangeSpec := { name := "cellPlays", fn := fun _ => fun
  | [d1, d2] => { results := [.lit (.bool false)], args := [d1, d2] }
  | _ => none }
def CellPlaysWrongFalsely : Prop := cellPlaysRow.holds Try.pinned (OpenSpec.ofChange cellPlaysWrong)

/-- 'doormanlaw05.CellRises': WHATEVER THE INPUT: true; the input reads as it did. -/
def cellRisesSpec : ChangeSpec := { name := "cellRises", fn := fun _ => fun
  | [d1, d2] => { results := [.lit (.bool true)], args := [d1, d2] }
  | _ => none }
def cellRisesRow : OpenClaim := { program := "ytghhjmdolmadeaa", sum := "8a0563cb476fae4c1d7cee046197f85677870aabf66fbbe075f1eb5959660a57", func := "doorman/doormanlaw05.CellRises", spec := "cellRises", apart := false }
def CellRisesSaid : Prop := cellRisesRow.holds Try.pinned (OpenSpec.ofChange cellRisesSpec)

/-- ITS FALSE NEIGHBOUR: 'it returns false'. Refute it at one input. -/
def cellRisesWrong : ChangeSpec := { name := "cellRises", fn := fun _ => fun
  | [d1, d2] => { results := [.lit (.bool false)], args := [d1, d2] }
  | _ => none }
def CellRisesWrongFalsely : Prop := cellRisesRow.holds Try.pinned (OpenSpec.ofChange cellRisesWrong)

/-- 'doormanlaw05.CellPairs': WHATEVER THE INPUT: true; the input reads as it did. -/
def cellPairsSpec : ChangeSpec := { name := "cellPairs", fn := fun _ => fun
  | [d1, d2] => { results := [.lit (.bool true)], args := [d1, d2] }
  | _ => none }
def cellPairsRow : OpenClaim := { program := "ytghhjmdolmadeaa", sum := "8a0563cb476fae4c1d7cee046197f85677870aabf66fbbe075f1eb5959660a57", func := "doorman/doormanlaw05.CellPairs", spec := "cellPairs", apart := false }
def CellPairsSaid : Prop := cellPairsRow.holds Try.pinned (OpenSpec.ofChange cellPairsSpec)

/-- ITS FALSE NEIGHBOUR: 'it returns false'. Refute it at one input. -/
def cellPairsWrong : ChangeSpec := { name := "cellPairs", fn := fun _ => fun
  | [d1, d2] => { results := [.lit (.bool false)], args := [d1, d2] }
  | _ => none }
def CellPairsWrongFalsely : Prop := cellPairsRow.holds Try.pinned (OpenSpec.ofChange cellPairsWrong)

/-- 'doormanlaw05.CellValid': WHATEVER THE INPUT: true; the input reads as it did. -/
def cellValidSpec : ChangeSpec := { name := "cellValid", fn := fun _ => fun
  | [d1, d2, d3] => { results := [.lit (.bool true)], args := [d1, d2, d3] }
  | _ => none }
def cellValidRow : OpenClaim := { program := "ytghhjmdolmadeaa", sum := "8a0563cb476fae4c1d7cee046197f85677870aabf66fbbe075f1eb5959660a57", func := "doorman/doormanlaw05.CellValid", spec := "cellValid", apart := false }
def CellValidSaid : Prop := cellValidRow.holds Try.pinned (OpenSpec.ofChange cellValidSpec)

/-- ITS FALSE NEIGHBOUR: 'it returns false'. Refute it at one input. -/
def cellValidWrong : ChangeSpec := { name := "cellValid", fn := fun _ => fun
  | [d1, d2, d3] => { results := [.lit (.bool false)], args := [d1, d2, d3] }
  | _ => none }
def CellValidWrongFalsely : Prop := cellValidRow.holds Try.pinned (OpenSpec.ofChange cellValidWrong)

/-- 'doormanlaw05.CellSaw': WHATEVER THE INPUT: true; the input reads as it did. -/
def cellSawSpec : ChangeSpec := { name := "cellSaw", fn := fun _ => fun
  | [d1, d2, d3, d4] => { results := [.lit (.bool true)], args := [d1, d2, d3, d4] }
  | _ => none }
def cellSawRow : OpenClaim := { program := "ytghhjmdolmadeaa", sum := "8a0563cb476fae4c1d7cee046197f85677870aabf66fbbe075f1eb5959660a57", func := "doorman/doormanlaw05.CellSaw", spec := "cellSaw", apart := false }
def CellSawSaid : Prop := cellSawRow.holds Try.pinned (OpenSpec.ofChange cellSawSpec)

/-- ITS FALSE NEIGHBOUR: 'it returns false'. Refute it at one input. -/
def cellSawWrong : ChangeSpec := { name := "cellSaw", fn := fun _ => fun
  | [d1, d2, d3, d4] => { results := [.lit (.bool false)], args := [d1, d2, d3, d4] }
  | _ => none }
def CellSawWrongFalsely : Prop := cellSawRow.holds Try.pinned (OpenSpec.ofChange cellSawWrong)

/- THE SECOND FORM. 'bulk': how many values and letters a reading holds, each counted each time it is reached (what is shared counts as often as it is met; a slice's spare places count too). A statement '..UptoSaid' is the law's where the arguments, and the package variables that the reading takes, are together of bulk at most 1048576: NARROWER than '..Said'. Prove '..Said' where nothing that the law and all that it calls make is longer than what came in: it says more and counts as full. Else prove '..UptoSaid'. A law counts once. -/
mutual
def uptoBulk {H : Type} : DataW H → Nat
  | .lit (.string bytes) => bytes.length + 1
  | .lit _ => 1
  | .nil => 1
  | .ptr d => uptoBulk d + 1
  | .slice elems spare => uptoBulkAll elems + uptoBulkAll spare + 1
  | .agg parts => uptoBulkAll parts + 1
  | .iface _ d => uptoBulk d + 1
  | .map entries => uptoBulkEntries entries + 1
  | .held _ => 1
def uptoBulkAll {H : Type} : List (DataW H) → Nat
  | [] => 0
  | d :: r => uptoBulk d + uptoBulkAll r
def uptoBulkEntries {H : Type} : List (Lit × DataW H) → Nat
  | [] => 0
  | x :: r => uptoBulkEntry x + uptoBulkEntries r
def uptoBulkEntry {H : Type} : Lit × DataW H → Nat
  | (.string bytes, d) => bytes.length + uptoBulk d + 1
  | (_, d) => uptoBulk d + 1
 end
def uptoSmall : (H : Type) → List (DataW H) → Bool := fun _ ds => decide (uptoBulkAll ds ≤ 1048576)
def OpenSpec.upto (s : _root_.Go.ChangeSpec) : _root_.Go.OpenSpec := { _root_.Go.OpenSpec.ofChange s with cond := some uptoSmall }

/-- 'doormanlaw05.CellPlays', WHERE WHAT IT READS IS OF BULK AT MOST 1048576: true; the input reads as it did. -/
def cellPlaysUptoRow : OpenClaim := { program := "ytghhjmdolmadeaa", sum := "8a0563cb476fae4c1d7cee046197f85677870aabf66fbbe075f1eb5959660a57", func := "doorman/doormanlaw05.CellPlays", spec := "cellPlays", apart := false, narrowed := true }
def CellPlaysUptoSaid : Prop := cellPlaysUptoRow.holds Try.pinned (OpenSpec.upto cellPlaysSpec)

/-- 'doormanlaw05.CellRises', WHERE WHAT IT READS IS OF BULK AT MOST 1048576: true; the input reads as it did. -/
def cellRisesUptoRow : OpenClaim := { program := "ytghhjmdolmadeaa", sum := "8a0563cb476fae4c1d7cee046197f85677870aabf66fbbe075f1eb5959660a57", func := "doorman/doormanlaw05.CellRises", spec := "cellRises", apart := false, narrowed := true }
def CellRisesUptoSaid : Prop := cellRisesUptoRow.holds Try.pinned (OpenSpec.upto cellRisesSpec)

/-- 'doormanlaw05.CellPairs', WHERE WHAT IT READS IS OF BULK AT MOST 1048576: true; the input reads as it did. -/
def cellPairsUptoRow : OpenClaim := { program := "ytghhjmdolmadeaa", sum := "8a0563cb476fae4c1d7cee046197f85677870aabf66fbbe075f1eb5959660a57", func := "doorman/doormanlaw05.CellPairs", spec := "cellPairs", apart := false, narrowed := true }
def CellPairsUptoSaid : Prop := cellPairsUptoRow.holds Try.pinned (OpenSpec.upto cellPairsSpec)

/-- 'doormanlaw05.CellValid', WHERE WHAT IT READS IS OF BULK AT MOST 1048576: true; the input reads as it did. -/
def cellValidUptoRow : OpenClaim := { program := "ytghhjmdolmadeaa", sum := "8a0563cb476fae4c1d7cee046197f85677870aabf66fbbe075f1eb5959660a57", func := "doorman/doormanlaw05.CellValid", spec := "cellValid", apart := false, narrowed := true }
def CellValidUptoSaid : Prop := cellValidUptoRow.holds Try.pinned (OpenSpec.upto cellValidSpec)

/-- 'doormanlaw05.CellSaw', WHERE WHAT IT READS IS OF BULK AT MOST 1048576: true; the input reads as it did. -/
def cellSawUptoRow : OpenClaim := { program := "ytghhjmdolmadeaa", sum := "8a0563cb476fae4c1d7cee046197f85677870aabf66fbbe075f1eb5959660a57", func := "doorman/doormanlaw05.CellSaw", spec := "cellSaw", apart := false, narrowed := true }
def CellSawUptoSaid : Prop := cellSawUptoRow.holds Try.pinned (OpenSpec.upto cellSawSpec)

end Rows
end Go.Proofs.Ytghhjmdolmadeaa
