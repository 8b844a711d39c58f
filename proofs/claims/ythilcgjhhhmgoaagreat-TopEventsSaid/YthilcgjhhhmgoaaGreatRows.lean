/-
  No cell of these rows narrows 'for every input' (looked for: loops, veiled, ifaces, maps, wideKeys, modest, calm, conditions, laid).
  DERIVED. THE GIVEN ROWS OF THIS SEAT. 4 by the template 'for every input the law returns true; each argument reads behind the call as it read before'; 0 by the template 'total and deterministic' (their statements: YthilcgjhhhmgoaaGreatTotals.lean).
  GIVEN WITH THE SEED: the statements are not yours to turn. If you find one false, say at which input.
  Laid BY PROGRAM, IN A SANDBOX (cutbox-rows.mjs): the forced cells as the released guide's own fill.sh prints them over the translation a87bbac8abd44212… (all of the seat's roots in one cut). By AI agents, Wed Nov 11 2026. No macro, syntax, notation, axiom, sorry.
-/
import Derived.Test.YthilcgjhhhmgoaaGreatChecked
import GoSem.Claim
import GoSem.ClaimJoined
import GoSem.ClaimMapViews
import Derived.JoinedTies
import Derived.KernelRfl
namespace Go.Proofs.YthilcgjhhhmgoaaGreat
/- THE CELL 'sum', in the pinned program and in every row, IS THE sha256 OF THE DUMP (.gsa) THAT YthilcgjhhhmgoaaGreatProg.lean LOADS. Nothing in Lean hashes anything: it is a label: what it is worth is what the hold of that sum in a sandbox is worth. -/
noncomputable def Tryz.pinned : Pinned := { name := "ythilcgjhhhmgoaagreat", sum := "a87bbac8abd4421257b76f92cf876031a80bcdb62d4923ee94c93ed251a55d30", checked := Tryz.checked }
namespace Rows
def none {H : Type} : Left H := { results := [], args := [] }

/-- 'doormantop.TopEvents': WHATEVER THE INPUT: true; the input reads as it did. -/
def topEventsSpec : ChangeSpec := { name := "topEvents", fn := fun _ => fun
  | [d1, d2] => { results := [.lit (.bool true)], args := [d1, d2] }
  | _ => none }
def topEventsRow : OpenClaim := { program := "ythilcgjhhhmgoaagreat", sum := "a87bbac8abd4421257b76f92cf876031a80bcdb62d4923ee94c93ed251a55d30", func := "doorman/doormantop.TopEvents", spec := "topEvents", inPlace := ["slices.overlaps[string]", "slices.overlaps[doorman/book.Entry]", "slices.overlaps[doorman/api.Session]", "slices.overlaps[uint32]"], unfollowed := true, recurses := true, apart := false }
def TopEventsSaid : Prop := topEventsRow.holds Tryz.pinned (OpenSpec.ofChange topEventsSpec)

/-- ITS FALSE NEIGHBOUR: 'it returns false'. Refute it at one input. -/
def topEventsWrong : ChangeSpec := { name := "topEvents", fn := fun _ => fun
  | [d1, d2] => { results := [.lit (.bool false)], args := [d1, d2] }
  | _ => none }
def TopEventsWrongFalsely : Prop := topEventsRow.holds Tryz.pinned (OpenSpec.ofChange topEventsWrong)

/-- 'doormantop.TopErrors': WHATEVER THE INPUT: true; the input reads as it did. -/
def topErrorsSpec : ChangeSpec := { name := "topErrors", fn := fun _ => fun
  | [d] => { results := [.lit (.bool true)], args := [d] }
  | _ => none }
def topErrorsRow : OpenClaim := { program := "ythilcgjhhhmgoaagreat", sum := "a87bbac8abd4421257b76f92cf876031a80bcdb62d4923ee94c93ed251a55d30", func := "doorman/doormantop.TopErrors", spec := "topErrors", inPlace := ["slices.overlaps[string]", "slices.overlaps[doorman/book.Entry]", "slices.overlaps[doorman/api.Session]", "slices.overlaps[uint32]"], unfollowed := true, recurses := true, apart := false }
def TopErrorsSaid : Prop := topErrorsRow.holds Tryz.pinned (OpenSpec.ofChange topErrorsSpec)

/-- ITS FALSE NEIGHBOUR: 'it returns false'. Refute it at one input. -/
def topErrorsWrong : ChangeSpec := { name := "topErrors", fn := fun _ => fun
  | [d] => { results := [.lit (.bool false)], args := [d] }
  | _ => none }
def TopErrorsWrongFalsely : Prop := topErrorsRow.holds Tryz.pinned (OpenSpec.ofChange topErrorsWrong)

/-- 'doormantop.TopLease': WHATEVER THE INPUT: true; the input reads as it did. -/
def topLeaseSpec : ChangeSpec := { name := "topLease", fn := fun _ => fun
  | [d] => { results := [.lit (.bool true)], args := [d] }
  | _ => none }
def topLeaseRow : OpenClaim := { program := "ythilcgjhhhmgoaagreat", sum := "a87bbac8abd4421257b76f92cf876031a80bcdb62d4923ee94c93ed251a55d30", func := "doorman/doormantop.TopLease", spec := "topLease", inPlace := ["slices.overlaps[string]", "slices.overlaps[doorman/book.Entry]", "slices.overlaps[doorman/api.Session]", "slices.overlaps[uint32]"], unfollowed := true, recurses := true, apart := false }
def TopLeaseSaid : Prop := topLeaseRow.holds Tryz.pinned (OpenSpec.ofChange topLeaseSpec)

/-- ITS FALSE NEIGHBOUR: 'it returns false'. Refute it at one input. -/
def topLeaseWrong : ChangeSpec := { name := "topLease", fn := fun _ => fun
  | [d] => { results := [.lit (.bool false)], args := [d] }
  | _ => none }
def TopLeaseWrongFalsely : Prop := topLeaseRow.holds Tryz.pinned (OpenSpec.ofChange topLeaseWrong)

/-- 'doormantop.TopWatched': WHATEVER THE INPUT: true; the input reads as it did. -/
def topWatchedSpec : ChangeSpec := { name := "topWatched", fn := fun _ => fun
  | [d] => { results := [.lit (.bool true)], args := [d] }
  | _ => none }
def topWatchedRow : OpenClaim := { program := "ythilcgjhhhmgoaagreat", sum := "a87bbac8abd4421257b76f92cf876031a80bcdb62d4923ee94c93ed251a55d30", func := "doorman/doormantop.TopWatched", spec := "topWatched", inPlace := ["slices.overlaps[string]", "slices.overlaps[doorman/book.Entry]", "slices.overlaps[doorman/api.Session]", "slices.overlaps[uint32]"], unfollowed := true, recurses := true, apart := false }
def TopWatchedSaid : Prop := topWatchedRow.holds Tryz.pinned (OpenSpec.ofChange topWatchedSpec)

/-- ITS FALSE NEIGHBOUR: 'it returns false'. Refute it at one input. -/
def topWatchedWrong : ChangeSpec := { name := "topWatched", fn := fun _ => fun
  | [d] => { results := [.lit (.bool false)], args := [d] }
  | _ => none }
def TopWatchedWrongFalsely : Prop := topWatchedRow.holds Tryz.pinned (OpenSpec.ofChange topWatchedWrong)

/- THE SECOND FORM. 'bulk': how many values and letters a reading holds, each counted each time it is reached (what is shared counts as often as it is met; a slice's spare places count too). A statement '..UptoSaid' is the law's where the arguments, and the package variables that the reading takes, are together of bulk at most 1048576: NARROWER than '..Said'. Prove '..Said' where nothing that the law and all that it calls make is longer than what came in: it says more and counts as full. Else prove '..UptoSaid'. A law counts once. -/
mutual
def uptoBulk {H : Type} : DataW H → Nat
  | .lit (.string bytes) => bytes.length + 1
  | .lit _ => 1
  | .nil => 1
  | .ptr d => uptoBulk d + 1
  | .slice elems spare => uptoBulkAll elems + uptoBulkAll spare + 1
  | .agg parts => uptoBulkAll parts + 1
  | .iface _ d => uptoBulk d + 1
  | .map entries => uptoBulkEntries entries + 1
  | .held _ => 1
def uptoBulkAll {H : Type} : List (DataW H) → Nat
  | [] => 0
  | d :: r => uptoBulk d + uptoBulkAll r
def uptoBulkEntries {H : Type} : List (Lit × DataW H) → Nat
  | [] => 0
  | x :: r => uptoBulkEntry x + uptoBulkEntries r
def uptoBulkEntry {H : Type} : Lit × DataW H → Nat
  | (.string bytes, d) => bytes.length + uptoBulk d + 1
  | (_, d) => uptoBulk d + 1
 end
def uptoSmall : (H : Type) → List (DataW H) → Bool := fun _ ds => decide (uptoBulkAll ds ≤ 1048576)
def OpenSpec.upto (s : _root_.Go.ChangeSpec) : _root_.Go.OpenSpec := { _root_.Go.OpenSpec.ofChange s with cond := some uptoSmall }

/-- 'doormantop.TopEvents', WHERE WHAT IT READS IS OF BULK AT MOST 1048576: true; the input reads as it did. -/
def topEventsUptoRow : OpenClaim := { program := "ythilcgjhhhmgoaagreat", sum := "a87bbac8abd4421257b76f92cf876031a80bcdb62d4923ee94c93ed251a55d30", func := "doorman/doormantop.TopEvents", spec := "topEvents", inPlace := ["slices.overlaps[string]", "slices.overlaps[doorman/book.Entry]", "slices.overlaps[doorman/api.Session]", "slices.overlaps[uint32]"], unfollowed := true, recurses := true, apart := false, narrowed := true }
def TopEventsUptoSaid : Prop := topEventsUptoRow.holds Tryz.pinned (OpenSpec.upto topEventsSpec)

/-- 'doormantop.TopErrors', WHERE WHAT IT READS IS OF BULK AT MOST 1048576: true; the input reads as it did. -/
def topErrorsUptoRow : OpenClaim := { program := "ythilcgjhhhmgoaagreat", sum := "a87bbac8abd4421257b76f92cf876031a80bcdb62d4923ee94c93ed251a55d30", func := "doorman/doormantop.TopErrors", spec := "topErrors", inPlace := ["slices.overlaps[string]", "slices.overlaps[doorman/book.Entry]", "slices.overlaps[doorman/api.Session]", "slices.overlaps[uint32]"], unfollowed := true, recurses := true, apart := false, narrowed := true }
def TopErrorsUptoSaid : Prop := topErrorsUptoRow.holds Tryz.pinned (OpenSpec.upto topErrorsSpec)

/-- 'doormantop.TopLease', WHERE WHAT IT READS IS OF BULK AT MOST 1048576: true; the input reads as it did. -/
def topLeaseUptoRow : OpenClaim := { program := "ythilcgjhhhmgoaagreat", sum := "a87bbac8abd4421257b76f92cf876031a80bcdb62d4923ee94c93ed251a55d30", func := "doorman/doormantop.TopLease", spec := "topLease", inPlace := ["slices.overlaps[string]", "slices.overlaps[doorman/book.Entry]", "slices.overlaps[doorman/api.Session]", "slices.overlaps[uint32]"], unfollowed := true, recurses := true, apart := false, narrowed := true }
def TopLeaseUptoSaid : Prop := topLeaseUptoRow.holds Tryz.pinned (OpenSpec.upto topLeaseSpec)

/-- 'doormantop.TopWatched', WHERE WHAT IT READS IS OF BULK AT MOST 1048576: true; the input reads as it did. -/
def topWatchedUptoRow : OpenClaim := { program := "ythilcgjhhhmgoaagreat", sum := "a87bbac8abd4421257b76f92cf876031a80bcdb62d4923ee94c93ed251a55d30", func := "doorman/doormantop.TopWatched", spec := "topWatched", inPlace := ["slices.overlaps[string]", "slices.overlaps[doorman/book.Entry]", "slices.overlaps[doorman/api.Session]", "slices.overlaps[uint32]"], unfollowed := true, recurses := true, apart := false, narrowed := true }
def TopWatchedUptoSaid : Prop := topWatchedUptoRow.holds Tryz.pinned (OpenSpec.upto topWatchedSpec)

end Rows
end Go.Proofs.YthilcgjhhhmgoaaGreat
