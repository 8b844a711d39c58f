/-
  No cell of these rows narrows 'for every input' (looked for: loops, veiled, ifaces, maps, wideKeys, modest, calm, conditions, laid).
  DERIVED. THE GIVEN ROWS OF THIS SEAT. 6 by the template 'for every input the law returns true; each argument reads behind the call as it read before'; 0 by the template 'total and deterministic' (their statements: YtbhngcjiciinpaaTotals.lean).
  GIVEN WITH THE SEED: the statements are not yours to turn. If you find one false, say at which input.
  Laid BY PROGRAM, IN A SANDBOX (cutbox-rows.mjs): the forced cells as the released guide's own fill.sh prints them over the translation a7e30ece783eb38a… (all of the seat's roots in one cut). By AI agents, Wed Nov 11 2026. No macro, syntax, notation, axiom, sorry.
-/
import Derived.Test.YtbhngcjiciinpaaChecked
import GoSem.Claim
import GoSem.ClaimJoined
import GoSem.ClaimMapViews
import Derived.JoinedTies
import Derived.KernelRfl
namespace Go.Proofs.Ytbhngcjiciinpaa
/- THE CELL 'sum', in the pinned program and in every row, IS THE sha256 OF THE DUMP (.gsa) THAT YtbhngcjiciinpaaProg.lean LOADS. Nothing in Lean hashes anything: it is a label: what it is worth is what the hold of that sum in a sandbox is worth. -/
noncomputable def Try.pinned : Pinned := { name := "ytbhngcjiciinpaa", sum := "a7e30ece783eb38aa29c2839d02d194abae441c8726113db8c762b9d54039f4a", checked := Try.checked }
namespace Rows
def none {H : Type} : Left H := { results := [], args := [] }

/-- 'doormanlaw02.HashPlays': WHATEVER THE INPUT: true; the input reads as it did. -/
def hashPlaysSpec : ChangeSpec := { name := "hashPlays", fn := fun _ => fun
  | [d1, d2] => { results := [.lit (.bool true)], args := [d1, d2] }
  | _ => none }
def hashPlaysRow : OpenClaim := { program := "ytbhngcjiciinpaa", sum := "a7e30ece783eb38aa29c2839d02d194abae441c8726113db8c762b9d54039f4a", func := "doorman/doormanlaw02.HashPlays", spec := "hashPlays", apart := false }
def HashPlaysSaid : Prop := hashPlaysRow.holds Try.pinned (OpenSpec.ofChange hashPlaysSpec)

/-- ITS FALSE NEIGHBOUR: 'it returns false'. Refute it at one input. -/
def hashPlaysWrong : ChangeSpec := { name := "hashPlays", fn := fun _ => fun
  | [d1, d2] => { results := [.lit (.bool false)], args := [d1, d2] }
  | _ => none }
def HashPlaysWrongFalsely : Prop := hashPlaysRow.holds Try.pinned (OpenSpec.ofChange hashPlaysWrong)

/-- 'doormanlaw02.HashNames': WHATEVER THE INPUT: true; the input reads as it did. -/
def hashNamesSpec : ChangeSpec := { name := "hashNames", fn := fun _ => fun
  | [d1, d2] => { results := [.lit (.bool true)], args := [d1, d2] }
  | _ => none }
def hashNamesRow : OpenClaim := { program := "ytbhngcjiciinpaa", sum := "a7e30ece783eb38aa29c2839d02d194abae441c8726113db8c762b9d54039f4a", func := "doorman/doormanlaw02.HashNames", spec := "hashNames", apart := false }
def HashNamesSaid : Prop := hashNamesRow.holds Try.pinned (OpenSpec.ofChange hashNamesSpec)

/-- ITS FALSE NEIGHBOUR: 'it returns false'. Refute it at one input. -/
def hashNamesWrong : ChangeSpec := { name := "hashNames", fn := fun _ => fun
  | [d1, d2] => { results := [.lit (.bool false)], args := [d1, d2] }
  | _ => none }
def HashNamesWrongFalsely : Prop := hashNamesRow.holds Try.pinned (OpenSpec.ofChange hashNamesWrong)

/-- 'doormanlaw02.HashStripes': WHATEVER THE INPUT: true; the input reads as it did. -/
def hashStripesSpec : ChangeSpec := { name := "hashStripes", fn := fun _ => fun
  | [d1, d2] => { results := [.lit (.bool true)], args := [d1, d2] }
  | _ => none }
def hashStripesRow : OpenClaim := { program := "ytbhngcjiciinpaa", sum := "a7e30ece783eb38aa29c2839d02d194abae441c8726113db8c762b9d54039f4a", func := "doorman/doormanlaw02.HashStripes", spec := "hashStripes", apart := false }
def HashStripesSaid : Prop := hashStripesRow.holds Try.pinned (OpenSpec.ofChange hashStripesSpec)

/-- ITS FALSE NEIGHBOUR: 'it returns false'. Refute it at one input. -/
def hashStripesWrong : ChangeSpec := { name := "hashStripes", fn := fun _ => fun
  | [d1, d2] => { results := [.lit (.bool false)], args := [d1, d2] }
  | _ => none }
def HashStripesWrongFalsely : Prop := hashStripesRow.holds Try.pinned (OpenSpec.ofChange hashStripesWrong)

/-- 'doormanlaw02.HashOne': WHATEVER THE INPUT: true; the input reads as it did. -/
def hashOneSpec : ChangeSpec := { name := "hashOne", fn := fun _ => fun
  | [d1, d2, d3, d4] => { results := [.lit (.bool true)], args := [d1, d2, d3, d4] }
  | _ => none }
def hashOneRow : OpenClaim := { program := "ytbhngcjiciinpaa", sum := "a7e30ece783eb38aa29c2839d02d194abae441c8726113db8c762b9d54039f4a", func := "doorman/doormanlaw02.HashOne", spec := "hashOne", apart := false }
def HashOneSaid : Prop := hashOneRow.holds Try.pinned (OpenSpec.ofChange hashOneSpec)

/-- ITS FALSE NEIGHBOUR: 'it returns false'. Refute it at one input. -/
def hashOneWrong : ChangeSpec := { name := "hashOne", fn := fun _ => fun
  | [d1, d2, d3, d4] => { results := [.lit (.bool false)], args := [d1, d2, d3, d4] }
  | _ => none }
def HashOneWrongFalsely : Prop := hashOneRow.holds Try.pinned (OpenSpec.ofChange hashOneWrong)

/-- 'doormanlaw02.HashBoth': WHATEVER THE INPUT: true; the input reads as it did. -/
def hashBothSpec : ChangeSpec := { name := "hashBoth", fn := fun _ => fun
  | [d1, d2, d3] => { results := [.lit (.bool true)], args := [d1, d2, d3] }
  | _ => none }
def hashBothRow : OpenClaim := { program := "ytbhngcjiciinpaa", sum := "a7e30ece783eb38aa29c2839d02d194abae441c8726113db8c762b9d54039f4a", func := "doorman/doormanlaw02.HashBoth", spec := "hashBoth", apart := false }
def HashBothSaid : Prop := hashBothRow.holds Try.pinned (OpenSpec.ofChange hashBothSpec)

/-- ITS FALSE NEIGHBOUR: 'it returns false'. Refute it at one input. -/
def hashBothWrong : ChangeSpec := { name := "hashBoth", fn := fun _ => fun
  | [d1, d2, d3] => { results := [.lit (.bool false)], args := [d1, d2, d3] }
  | _ => none }
def HashBothWrongFalsely : Prop := hashBothRow.holds Try.pinned (OpenSpec.ofChange hashBothWrong)

/-- 'doormanlaw02.HashAll': WHATEVER THE INPUT: true; the input reads as it did. -/
def hashAllSpec : ChangeSpec := { name := "hashAll", fn := fun _ => fun
  | [d1, d2] => { results := [.lit (.bool true)], args := [d1, d2] }
  | _ => none }
def hashAllRow : OpenClaim := { program := "ytbhngcjiciinpaa", sum := "a7e30ece783eb38aa29c2839d02d194abae441c8726113db8c762b9d54039f4a", func := "doorman/doormanlaw02.HashAll", spec := "hashAll", apart := false }
def HashAllSaid : Prop := hashAllRow.holds Try.pinned (OpenSpec.ofChange hashAllSpec)

/-- ITS FALSE NEIGHBOUR: 'it returns false'. Refute it at one input. -/
def hashAllWrong : ChangeSpec := { name := "hashAll", fn := fun _ => fun
  | [d1, d2] => { results := [.lit (.bool false)], args := [d1, d2] }
  | _ => none }
def HashAllWrongFalsely : Prop := hashAllRow.holds Try.pinned (OpenSpec.ofChange hashAllWrong)

/- THE SECOND FORM. 'bulk': how many values and letters a reading holds, each counted each time it is reached (what is shared counts as often as it is met; a slice's spare places count too). A statement '..UptoSaid' is the law's where the arguments, and the package variables that the reading takes, are together of bulk at most 1048576: NARROWER than '..Said'. Prove '..Said' where nothing that the law and all that it calls make is longer than what came in: it says more and counts as full. Else prove '..UptoSaid'. A law counts once. -/
mutual
def uptoBulk {H : Type} : DataW H → Nat
  | .lit (.string bytes) => bytes.length + 1
  | .lit _ => 1
  | .nil => 1
  | .ptr d => uptoBulk d + 1
  | .slice elems spare => uptoBulkAll elems + uptoBulkAll spare + 1
  | .agg parts => uptoBulkAll parts + 1
  | .iface _ d => uptoBulk d + 1
  | .map entries => uptoBulkEntries entries + 1
  | .held _ => 1
def uptoBulkAll {H : Type} : List (DataW H) → Nat
  | [] => 0
  | d :: r => uptoBulk d + uptoBulkAll r
def uptoBulkEntries {H : Type} : List (Lit × DataW H) → Nat
  | [] => 0
  | x :: r => uptoBulkEntry x + uptoBulkEntries r
def uptoBulkEntry {H : Type} : Lit × DataW H → Nat
  | (.string bytes, d) => bytes.length + uptoBulk d + 1
  | (_, d) => uptoBulk d + 1
 end
def uptoSmall : (H : Type) → List (DataW H) → Bool := fun _ ds => decide (uptoBulkAll ds ≤ 1048576)
def OpenSpec.upto (s : _root_.Go.ChangeSpec) : _root_.Go.OpenSpec := { _root_.Go.OpenSpec.ofChange s with cond := some uptoSmall }

/-- 'doormanlaw02.HashPlays', WHERE WHAT IT READS IS OF BULK AT MOST 1048576: true; the input reads as it did. -/
def hashPlaysUptoRow : OpenClaim := { program := "ytbhngcjiciinpaa", sum := "a7e30ece783eb38aa29c2839d02d194abae441c8726113db8c762b9d54039f4a", func := "doorman/doormanlaw02.HashPlays", spec := "hashPlays", apart := false, narrowed := true }
def HashPlaysUptoSaid : Prop := hashPlaysUptoRow.holds Try.pinned (OpenSpec.upto hashPlaysSpec)

/-- 'doormanlaw02.HashNames', WHERE WHAT IT READS IS OF BULK AT MOST 1048576: true; the input reads as it did. -/
def hashNamesUptoRow : OpenClaim := { program := "ytbhngcjiciinpaa", sum := "a7e30ece783eb38aa29c2839d02d194abae441c8726113db8c762b9d54039f4a", func := "doorman/doormanlaw02.HashNames", spec := "hashNames", apart := false, narrowed := true }
def HashNamesUptoSaid : Prop := hashNamesUptoRow.holds Try.pinned (OpenSpec.upto hashNamesSpec)

/-- 'doormanlaw02.HashStripes', WHERE WHAT IT READS IS OF BULK AT MOST 1048576: true; the input reads as it did. -/
def hashStripesUptoRow : OpenClaim := { program := "ytbhngcjiciinpaa", sum := "a7e30ece783eb38aa29c2839d02d194abae441c8726113db8c762b9d54039f4a", func := "doorman/doormanlaw02.HashStripes", spec := "hashStripes", apart := false, narrowed := true }
def HashStripesUptoSaid : Prop := hashStripesUptoRow.holds Try.pinned (OpenSpec.upto hashStripesSpec)

/-- 'doormanlaw02.HashOne', WHERE WHAT IT READS IS OF BULK AT MOST 1048576: true; the input reads as it did. -/
def hashOneUptoRow : OpenClaim := { program := "ytbhngcjiciinpaa", sum := "a7e30ece783eb38aa29c2839d02d194abae441c8726113db8c762b9d54039f4a", func := "doorman/doormanlaw02.HashOne", spec := "hashOne", apart := false, narrowed := true }
def HashOneUptoSaid : Prop := hashOneUptoRow.holds Try.pinned (OpenSpec.upto hashOneSpec)

/-- 'doormanlaw02.HashBoth', WHERE WHAT IT READS IS OF BULK AT MOST 1048576: true; the input reads as it did. -/
def hashBothUptoRow : OpenClaim := { program := "ytbhngcjiciinpaa", sum := "a7e30ece783eb38aa29c2839d02d194abae441c8726113db8c762b9d54039f4a", func := "doorman/doormanlaw02.HashBoth", spec := "hashBoth", apart := false, narrowed := true }
def HashBothUptoSaid : Prop := hashBothUptoRow.holds Try.pinned (OpenSpec.upto hashBothSpec)

/-- 'doormanlaw02.HashAll', WHERE WHAT IT READS IS OF BULK AT MOST 1048576: true; the input reads as it did. -/
def hashAllUptoRow : OpenClaim := { program := "ytbhngcjiciinpaa", sum := "a7e30ece783eb38aa29c2839d02d194abae441c8726113db8c762b9d54039f4a", func := "doorman/doormanlaw02.HashAll", spec := "hashAll", apart := false, narrowed := true }
def HashAllUptoSaid : Prop := hashAllUptoRow.holds Try.pinned (OpenSpec.upto hashAllSpec)

end Rows
end Go.Proofs.Ytbhngcjiciinpaa
