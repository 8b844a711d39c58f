/- Whether two looks at an epoch are valid is the document's: the law CellValid answers true. For every three numbers of the type uint64; no other condition. -/
import Derived.Test.YtghhjmdolmadeaaPCellValidx1
import Derived.Test.YtghhjmdolmadeaaCellBits
namespace Go.Proofs.Ytghhjmdolmadeaa.Pure
open Go.RowKit Go.Proofs.Ytghhjmdolmadeaa.PCellValid Go.Proofs.YtghhjmdolmadeaaW.PrintWords Go.Proofs.YtghhjmdolmadeaaW.PrintLast Go.Proofs.Ytghhjmdolmadeaa.CellBits

theorem CellValid.awake : doormanlaw05_awake.f = some true := by decide +kernel

theorem CellValid : doormanlaw05_CellValid.Pure := by
  intro a b c wa wb wc
  obtain ⟨a0, a1⟩ := bounds_u64 wa
  obtain ⟨c0, c1⟩ := bounds_u64 wc
  unfold doormanlaw05_CellValid.f cell_Valid.f doormanref05_Bound.f
  rw [CellValid.awake]
  simp only [Option.bind_some, if_true]
  rw [and1 a a0 a1, andNot1 c c0 c1, tmod2 a a0, tmod2 c c0, wrapIn (c - c % 2) (by omega) (by omega)]
  by_cases e : a = b
  · subst e
    by_cases e2 : a % 2 = 0
    · simp only [if_pos e2, if_true, Option.bind_some, beq_self_eq_true]
    · simp only [if_neg e2, if_true, Option.bind_some, beq_self_eq_true]
  · simp only [if_neg e, Option.bind_some, beq_self_eq_true]

end Go.Proofs.Ytghhjmdolmadeaa.Pure
