/-
  No cell of these rows narrows 'for every input' (looked for: loops, veiled, ifaces, maps, wideKeys, modest, calm, conditions, laid).
  DERIVED. THE GIVEN ROWS OF THIS SEAT. 5 by the template 'for every input the law returns true; each argument reads behind the call as it read before'; 0 by the template 'total and deterministic' (their statements: YtmenjadceliheaaTotals.lean).
  GIVEN WITH THE SEED: the statements are not yours to turn. If you find one false, say at which input.
  Laid BY PROGRAM, IN A SANDBOX (cutbox-rows.mjs): the forced cells as the released guide's own fill.sh prints them over the translation a19efb82c18747c6… (all of the seat's roots in one cut). By AI agents, Wed Nov 11 2026. No macro, syntax, notation, axiom, sorry.
-/
import Derived.Test.YtmenjadceliheaaChecked
import GoSem.Claim
import GoSem.ClaimJoined
import GoSem.ClaimMapViews
import Derived.JoinedTies
import Derived.KernelRfl
namespace Go.Proofs.Ytmenjadceliheaa
/- THE CELL 'sum', in the pinned program and in every row, IS THE sha256 OF THE DUMP (.gsa) THAT YtmenjadceliheaaProg.lean LOADS. Nothing in Lean hashes anything: it is a label: what it is worth is what the hold of that sum in a sandbox is worth. -/
noncomputable def Try.pinned : Pinned := { name := "ytmenjadceliheaa", sum := "a19efb82c18747c6e3a31728d9cfc60f3d3ed7eb519091153376a7e033180996", checked := Try.checked }
namespace Rows
def none {H : Type} : Left H := { results := [], args := [] }

/-- 'doormanlaw03.RingPlays': WHATEVER THE INPUT: true; the input reads as it did. -/
def ringPlaysSpec : ChangeSpec := { name := "ringPlays", fn := fun _ => fun
  | [d1, d2, d3] => { results := [.lit (.bool true)], args := [d1, d2, d3] }
  | _ => none }
def ringPlaysRow : OpenClaim := { program := "ytmenjadceliheaa", sum := "a19efb82c18747c6e3a31728d9cfc60f3d3ed7eb519091153376a7e033180996", func := "doorman/doormanlaw03.RingPlays", spec := "ringPlays", unfollowed := true, recurses := true, apart := false }
def RingPlaysSaid : Prop := ringPlaysRow.holds Try.pinned (OpenSpec.ofChange ringPlaysSpec)

/-- ITS FALSE NEIGHBOUR: 'it returns false'. Refute it at one input. -/
def ringPlaysWrong : ChangeSpec := { name := "ringPlays", fn := fun _ => fun
  | [d1, d2, d3] => { results := [.lit (.bool false)], args := [d1, d2, d3] }
  | _ => none }
def RingPlaysWrongFalsely : Prop := ringPlaysRow.holds Try.pinned (OpenSpec.ofChange ringPlaysWrong)

/-- 'doormanlaw03.RingOrder': WHATEVER THE INPUT: true; the input reads as it did. -/
def ringOrderSpec : ChangeSpec := { name := "ringOrder", fn := fun _ => fun
  | [d1, d2] => { results := [.lit (.bool true)], args := [d1, d2] }
  | _ => none }
def ringOrderRow : OpenClaim := { program := "ytmenjadceliheaa", sum := "a19efb82c18747c6e3a31728d9cfc60f3d3ed7eb519091153376a7e033180996", func := "doorman/doormanlaw03.RingOrder", spec := "ringOrder", unfollowed := true, recurses := true, apart := false }
def RingOrderSaid : Prop := ringOrderRow.holds Try.pinned (OpenSpec.ofChange ringOrderSpec)

/-- ITS FALSE NEIGHBOUR: 'it returns false'. Refute it at one input. -/
def ringOrderWrong : ChangeSpec := { name := "ringOrder", fn := fun _ => fun
  | [d1, d2] => { results := [.lit (.bool false)], args := [d1, d2] }
  | _ => none }
def RingOrderWrongFalsely : Prop := ringOrderRow.holds Try.pinned (OpenSpec.ofChange ringOrderWrong)

/-- 'doormanlaw03.RingAnew': WHATEVER THE INPUT: true; the input reads as it did. -/
def ringAnewSpec : ChangeSpec := { name := "ringAnew", fn := fun _ => fun
  | [d1, d2, d3] => { results := [.lit (.bool true)], args := [d1, d2, d3] }
  | _ => none }
def ringAnewRow : OpenClaim := { program := "ytmenjadceliheaa", sum := "a19efb82c18747c6e3a31728d9cfc60f3d3ed7eb519091153376a7e033180996", func := "doorman/doormanlaw03.RingAnew", spec := "ringAnew", unfollowed := true, recurses := true, apart := false }
def RingAnewSaid : Prop := ringAnewRow.holds Try.pinned (OpenSpec.ofChange ringAnewSpec)

/-- ITS FALSE NEIGHBOUR: 'it returns false'. Refute it at one input. -/
def ringAnewWrong : ChangeSpec := { name := "ringAnew", fn := fun _ => fun
  | [d1, d2, d3] => { results := [.lit (.bool false)], args := [d1, d2, d3] }
  | _ => none }
def RingAnewWrongFalsely : Prop := ringAnewRow.holds Try.pinned (OpenSpec.ofChange ringAnewWrong)

/-- 'doormanlaw03.RingMore': WHATEVER THE INPUT: true; the input reads as it did. -/
def ringMoreSpec : ChangeSpec := { name := "ringMore", fn := fun _ => fun
  | [d1, d2, d3] => { results := [.lit (.bool true)], args := [d1, d2, d3] }
  | _ => none }
def ringMoreRow : OpenClaim := { program := "ytmenjadceliheaa", sum := "a19efb82c18747c6e3a31728d9cfc60f3d3ed7eb519091153376a7e033180996", func := "doorman/doormanlaw03.RingMore", spec := "ringMore", unfollowed := true, recurses := true, apart := false }
def RingMoreSaid : Prop := ringMoreRow.holds Try.pinned (OpenSpec.ofChange ringMoreSpec)

/-- ITS FALSE NEIGHBOUR: 'it returns false'. Refute it at one input. -/
def ringMoreWrong : ChangeSpec := { name := "ringMore", fn := fun _ => fun
  | [d1, d2, d3] => { results := [.lit (.bool false)], args := [d1, d2, d3] }
  | _ => none }
def RingMoreWrongFalsely : Prop := ringMoreRow.holds Try.pinned (OpenSpec.ofChange ringMoreWrong)

/-- 'doormanlaw03.RingCopies': WHATEVER THE INPUT: true; the input reads as it did. -/
def ringCopiesSpec : ChangeSpec := { name := "ringCopies", fn := fun _ => fun
  | [d1, d2, d3] => { results := [.lit (.bool true)], args := [d1, d2, d3] }
  | _ => none }
def ringCopiesRow : OpenClaim := { program := "ytmenjadceliheaa", sum := "a19efb82c18747c6e3a31728d9cfc60f3d3ed7eb519091153376a7e033180996", func := "doorman/doormanlaw03.RingCopies", spec := "ringCopies", unfollowed := true, recurses := true, apart := false }
def RingCopiesSaid : Prop := ringCopiesRow.holds Try.pinned (OpenSpec.ofChange ringCopiesSpec)

/-- ITS FALSE NEIGHBOUR: 'it returns false'. Refute it at one input. -/
def ringCopiesWrong : ChangeSpec := { name := "ringCopies", fn := fun _ => fun
  | [d1, d2, d3] => { results := [.lit (.bool false)], args := [d1, d2, d3] }
  | _ => none }
def RingCopiesWrongFalsely : Prop := ringCopiesRow.holds Try.pinned (OpenSpec.ofChange ringCopiesWrong)

/- THE SECOND FORM. 'bulk': how many values and letters a reading holds, each counted each time it is reached (what is shared counts as often as it is met; a slice's spare places count too). A statement '..UptoSaid' is the law's where the arguments, and the package variables that the reading takes, are together of bulk at most 1048576: NARROWER than '..Said'. Prove '..Said' where nothing that the law and all that it calls make is longer than what came in: it says more and counts as full. Else prove '..UptoSaid'. A law counts once. -/
mutual
def uptoBulk {H : Type} : DataW H → Nat
  | .lit (.string bytes) => bytes.length + 1
  | .lit _ => 1
  | .nil => 1
  | .ptr d => uptoBulk d + 1
  | .slice elems spare => uptoBulkAll elems + uptoBulkAll spare + 1
  | .agg parts => uptoBulkAll parts + 1
  | .iface _ d => uptoBulk d + 1
  | .map entries => uptoBulkEntries entries + 1
  | .held _ => 1
def uptoBulkAll {H : Type} : List (DataW H) → Nat
  | [] => 0
  | d :: r => uptoBulk d + uptoBulkAll r
def uptoBulkEntries {H : Type} : List (Lit × DataW H) → Nat
  | [] => 0
  | x :: r => uptoBulkEntry x + uptoBulkEntries r
def uptoBulkEntry {H : Type} : Lit × DataW H → Nat
  | (.string bytes, d) => bytes.length + uptoBulk d + 1
  | (_, d) => uptoBulk d + 1
 end
def uptoSmall : (H : Type) → List (DataW H) → Bool := fun _ ds => decide (uptoBulkAll ds ≤ 1048576)
def OpenSpec.upto (s : _root_.Go.ChangeSpec) : _root_.Go.OpenSpec := { _root_.Go.OpenSpec.ofChange s with cond := some uptoSmall }

/-- 'doormanlaw03.RingPlays', WHERE WHAT IT READS IS OF BULK AT MOST 1048576: true; the input reads as it did. -/
def ringPlaysUptoRow : OpenClaim := { program := "ytmenjadceliheaa", sum := "a19efb82c18747c6e3a31728d9cfc60f3d3ed7eb519091153376a7e033180996", func := "doorman/doormanlaw03.RingPlays", spec := "ringPlays", unfollowed := true, recurses := true, apart := false, narrowed := true }
def RingPlaysUptoSaid : Prop := ringPlaysUptoRow.holds Try.pinned (OpenSpec.upto ringPlaysSpec)

/-- 'doormanlaw03.RingOrder', WHERE WHAT IT READS IS OF BULK AT MOST 1048576: true; the input reads as it did. -/
def ringOrderUptoRow : OpenClaim := { program := "ytmenjadceliheaa", sum := "a19efb82c18747c6e3a31728d9cfc60f3d3ed7eb519091153376a7e033180996", func := "doorman/doormanlaw03.RingOrder", spec := "ringOrder", unfollowed := true, recurses := true, apart := false, narrowed := true }
def RingOrderUptoSaid : Prop := ringOrderUptoRow.holds Try.pinned (OpenSpec.upto ringOrderSpec)

/-- 'doormanlaw03.RingAnew', WHERE WHAT IT READS IS OF BULK AT MOST 1048576: true; the input reads as it did. -/
def ringAnewUptoRow : OpenClaim := { program := "ytmenjadceliheaa", sum := "a19efb82c18747c6e3a31728d9cfc60f3d3ed7eb519091153376a7e033180996", func := "doorman/doormanlaw03.RingAnew", spec := "ringAnew", unfollowed := true, recurses := true, apart := false, narrowed := true }
def RingAnewUptoSaid : Prop := ringAnewUptoRow.holds Try.pinned (OpenSpec.upto ringAnewSpec)

/-- 'doormanlaw03.RingMore', WHERE WHAT IT READS IS OF BULK AT MOST 1048576: true; the input reads as it did. -/
def ringMoreUptoRow : OpenClaim := { program := "ytmenjadceliheaa", sum := "a19efb82c18747c6e3a31728d9cfc60f3d3ed7eb519091153376a7e033180996", func := "doorman/doormanlaw03.RingMore", spec := "ringMore", unfollowed := true, recurses := true, apart := false, narrowed := true }
def RingMoreUptoSaid : Prop := ringMoreUptoRow.holds Try.pinned (OpenSpec.upto ringMoreSpec)

/-- 'doormanlaw03.RingCopies', WHERE WHAT IT READS IS OF BULK AT MOST 1048576: true; the input reads as it did. -/
def ringCopiesUptoRow : OpenClaim := { program := "ytmenjadceliheaa", sum := "a19efb82c18747c6e3a31728d9cfc60f3d3ed7eb519091153376a7e033180996", func := "doorman/doormanlaw03.RingCopies", spec := "ringCopies", unfollowed := true, recurses := true, apart := false, narrowed := true }
def RingCopiesUptoSaid : Prop := ringCopiesUptoRow.holds Try.pinned (OpenSpec.upto ringCopiesSpec)

end Rows
end Go.Proofs.Ytmenjadceliheaa
