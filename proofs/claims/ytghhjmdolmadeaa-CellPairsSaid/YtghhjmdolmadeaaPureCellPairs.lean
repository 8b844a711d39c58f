/- So many writings, one behind the other, bring an epoch on by twice as many, up to its bound: the law CellPairs answers true. For every uint64 and uint8; no other condition. -/
import Derived.Test.YtghhjmdolmadeaaPCellPairsx1
import Derived.Test.YtghhjmdolmadeaaCellBits
namespace Go.Proofs.Ytghhjmdolmadeaa.Pure
open Go.RowKit Go.Proofs.Ytghhjmdolmadeaa.PCellPairs Go.Proofs.YtghhjmdolmadeaaW.PrintWords Go.Proofs.YtghhjmdolmadeaaW.PrintLast Go.Proofs.Ytghhjmdolmadeaa.CellBits

namespace CellPairs
theorem keep {a : Int} (h0 : 0 ≤ a) (h1 : a ≤ 1000) : wrap64 a = a := by unfold wrap64; omega
theorem awake : doormanlaw05_awake.f = some true := by decide +kernel
theorem value (v b : Int) : cell_Cell_Value.f v b = some v := rfl
theorem writing (v b : Int) (h0 : 0 ≤ v) (h1 : v ≤ 18446744073709551615) : cell_Cell_Writing.f v b = some (decide (v % 2 = 1)) := by
  unfold cell_Cell_Writing.f
  rw [and1 v h0 h1]
  rfl
theorem begin_ (v b : Int) (h0 : 0 ≤ v) (h1 : v ≤ 18446744073709551614) (he : v % 2 = 0) : cell_Cell_Begin.f v b = some (if b ≤ v then v else v + 1, b) := by
  unfold cell_Cell_Begin.f cell_Cell_Spent.f
  simp only [Option.bind_some]
  by_cases h : b ≤ v
  · rw [if_pos (by simpa using h), if_pos h]
  · rw [if_neg (by simpa using h), if_neg h, writing v b h0 (by omega)]
    simp only [Option.bind_some]
    rw [decide_eq_false (by omega), if_neg (by decide), wrapIn _ (by omega) (by omega)]
theorem end_ (v b : Int) (h0 : 0 ≤ v) (h1 : v ≤ 18446744073709551614) : cell_Cell_End.f v b = some (if v % 2 = 1 then v + 1 else v, b) := by
  unfold cell_Cell_End.f
  rw [writing v b h0 (by omega)]
  simp only [Option.bind_some]
  by_cases h : v % 2 = 1
  · rw [decide_eq_true h, if_pos rfl, if_pos h, wrapIn _ (by omega) (by omega)]
  · rw [decide_eq_false h, if_neg (by decide), if_neg h]

section
variable {x0 x1 : Int} (h0 : 0 ≤ x0) (h0' : x0 ≤ 18446744073709551615) (h1 : 0 ≤ x1) (h1' : x1 ≤ 255)
include h0 h0' h1 h1'
theorem loop (d : Nat) : ∀ i v : Int, 0 ≤ i → i ≤ x1 → x1 - i ≤ d → v = (if 2 * i ≤ x0 - x0 % 2 then 2 * i else x0 - x0 % 2) → Ev (fun k => doormanlaw05_CellPairs.l0 k x0 x1 i v (x0 - x0 % 2)) true := by
  have last (i v : Int) (hi : 0 ≤ i) (hi' : i ≤ x1) (hn : ¬ i < x1) (hv : v = (if 2 * i ≤ x0 - x0 % 2 then 2 * i else x0 - x0 % 2)) : Ev (fun k => doormanlaw05_CellPairs.l0 k x0 x1 i v (x0 - x0 % 2)) true := by
    obtain rfl : i = x1 := by omega
    have e1 : v % 2 ≠ 1 := by rw [hv]; split <;> omega
    have b0 : 0 ≤ v := by rw [hv]; split <;> omega
    have b1 : v ≤ 18446744073709551615 := by rw [hv]; split <;> omega
    refine Ev.step (f := fun _ => some true) (fun k => ?_) (Ev.now _)
    simp only [doormanlaw05_CellPairs.l0]
    rw [keep h1 (by omega), if_neg hn, value]
    simp only [Option.bind_some]
    rw [tmod2 _ h0, wrapIn i h1 (by omega), wrapIn (2 * i) (by omega) (by omega), wrapIn (x0 - x0 % 2) (by omega) (by omega), if_pos (by rw [hv]; unfold mn; split <;> split <;> omega), writing v _ b0 b1, decide_eq_false e1]
    rfl
  induction d with
  | zero => exact fun i v hi hi' hd hv => last i v hi hi' (by omega) hv
  | succ d ih =>
    intro i v hi hi' hd hv
    by_cases hlt : i < x1
    · have e0 : v % 2 = 0 := by rw [hv]; split <;> omega
      have b0 : 0 ≤ v := by rw [hv]; split <;> omega
      have b1 : v ≤ x0 - x0 % 2 := by rw [hv]; split <;> omega
      by_cases hs : x0 - x0 % 2 ≤ v
      · refine Ev.step (fun k => ?_) (ih (i + 1) v (by omega) (by omega) (by omega) (by rw [if_neg (by omega)]; omega))
        simp only [doormanlaw05_CellPairs.l0]
        rw [keep h1 (by omega), if_pos hlt, begin_ v _ b0 (by omega) e0, if_pos hs]
        simp only [Option.bind_some]
        rw [end_ v _ b0 (by omega), if_neg (by omega), keep (a := i + 1) (by omega) (by omega)]
        rfl
      · have hv2 : v = 2 * i := by rw [hv] at hs ⊢; split <;> omega
        refine Ev.step (fun k => ?_) (ih (i + 1) (v + 1 + 1) (by omega) (by omega) (by omega) (by rw [if_pos (by omega)]; omega))
        simp only [doormanlaw05_CellPairs.l0]
        rw [keep h1 (by omega), if_pos hlt, begin_ v _ b0 (by omega) e0, if_neg hs]
        simp only [Option.bind_some]
        rw [end_ (v + 1) _ (by omega) (by omega), if_pos (by omega), keep (a := i + 1) (by omega) (by omega)]
        rfl
    · exact last i v hi hi' hlt hv
end
end CellPairs

theorem CellPairs : doormanlaw05_CellPairs.Pure := by
  intro x0 x1 w0 w1
  obtain ⟨h0, h0'⟩ := bounds_u64 w0
  obtain ⟨h1, h1'⟩ := bounds_u8 w1
  refine Ev.rounds (g := fun k => doormanlaw05_CellPairs.f k x0 x1) ?_
  refine Ev.congr (fun k => ?_) (CellPairs.loop h0 h0' h1 h1' 256 0 0 (by omega) (by omega) (by omega) (by rw [if_pos (by omega)]; rfl))
  unfold doormanlaw05_CellPairs.f cell_New.f
  rw [CellPairs.awake, andNot1 x0 h0 h0']
  simp

end Go.Proofs.Ytghhjmdolmadeaa.Pure
