/- Of several who ask for a free lock, one behind the other, the first one has it, and nobody else, till it is given back: the law LatchFirst answers true. For every slice of uint8; no other condition. -/
import Derived.Test.YthmfcaieigclkaaPLatchFirstx2
import Derived.OpenShut
namespace Go.Proofs.Ythmfcaieigclkaa.Pure
open Go.RowKit Go.Proofs.Ythmfcaieigclkaa.PLatchFirst Go.Proofs.YthmfcaieigclkaaW.PrintWords Go.Proofs.YthmfcaieigclkaaW.PrintLast

namespace LatchFirst
theorem keep {a : Int} (h0 : 0 ≤ a) (h1 : a ≤ 1000) : wrap64 a = a := by unfold wrap64; omega
theorem awake : doormanlaw13_awake.f = some true := by decide +kernel
theorem free (x : Int) (hx : 0 ≤ x) : latch_Latch_Free.f (x + 1) = some false := by
  unfold latch_Latch_Free.f
  rw [beq_eq_false_iff_ne.2 (by omega)]
theorem owner (x : Int) (hx : 0 ≤ x) (hx' : x ≤ 255) : latch_Latch_Owner.f (x + 1) = some x := by
  unfold latch_Latch_Owner.f
  rw [show x + 1 - 1 = x from by omega, keep hx (by omega)]
theorem give (x y : Int) (hx : 0 ≤ x) (hx' : x ≤ 255) : latch_Latch_Give.f (x + 1) y = if x = y then some (0, true) else some (x + 1, false) := by
  unfold latch_Latch_Give.f
  rw [free x hx]
  simp only [Option.bind_some]
  rw [if_neg (by decide), owner x hx hx']
  simp only [Option.bind_some]
theorem take (x y : Int) (hx : 0 ≤ x) (hy : 0 ≤ y) : latch_Latch_Take.f (x + 1) y = some (x + 1, false) := by
  unfold latch_Latch_Take.f
  rw [if_neg (by omega), free x hx]
  rfl
theorem take0 (y : Int) (hy : 0 ≤ y) (hy' : y ≤ 255) : latch_Latch_Take.f 0 y = some (y + 1, true) := by
  unfold latch_Latch_Take.f latch_Latch_Free.f
  rw [if_neg (by omega), keep (a := y + 1) (by omega) (by omega)]
  rfl
theorem rd_bd {l : List Int} (h : ∀ x ∈ l, (Lit.int .u8 x).wf = true) (i : Int) : 0 ≤ rd l i ∧ rd l i ≤ 255 := by
  unfold rd
  rw [List.getD_eq_getElem?_getD]
  exact range_u8 h _

section
variable {l : List Int} (h : ∀ x ∈ l, (Lit.int .u8 x).wf = true) (hl : l.length ≤ 400) (hp : 0 < l.length)
include h hl hp

theorem loop1 (d : Nat) : ∀ i : Int, 0 ≤ i → (l.length : Int) - i ≤ d → Ev (fun k => doormanlaw13_LatchFirst.l1 k l i (rd l 0 + 1)) true := by
  obtain ⟨z0, z1⟩ := rd_bd h 0
  induction d with
  | zero =>
    intro i h0 hd
    refine Ev.step (f := fun _ => some true) (fun k => ?_) (Ev.now _)
    simp only [doormanlaw13_LatchFirst.l1]
    rw [if_neg (by omega), if_pos (by omega), keep (a := rd l 0) z0 (by omega), give _ _ z0 z1, if_pos rfl]
    rfl
  | succ d ih =>
    intro i h0 hd
    by_cases hlt : i < (l.length : Int)
    · obtain ⟨i0, i1⟩ := rd_bd h i
      refine Ev.step (f := fun k => doormanlaw13_LatchFirst.l1 k l (i + 1) (rd l 0 + 1)) (fun k => ?_) (ih (i + 1) (by omega) (by omega))
      simp only [doormanlaw13_LatchFirst.l1]
      rw [if_pos hlt, if_pos h0, if_pos (by omega)]
      rw [keep (a := i + 1) (by omega) (by omega)]
      by_cases e : rd l i = rd l 0
      · rw [if_pos e]
      · rw [if_neg e, keep (a := rd l i) i0 (by omega), give _ _ z0 z1, if_neg (fun q => e q.symm)]
        rfl
    · refine Ev.step (f := fun _ => some true) (fun k => ?_) (Ev.now _)
      simp only [doormanlaw13_LatchFirst.l1]
      rw [if_neg (by omega), if_pos (by omega), keep (a := rd l 0) z0 (by omega), give _ _ z0 z1, if_pos rfl]
      rfl

theorem loop0 (d : Nat) : ∀ i : Int, 1 ≤ i → i ≤ l.length → (l.length : Int) - i ≤ d → Ev (fun k => doormanlaw13_LatchFirst.l0 k l i (rd l 0 + 1)) true := by
  obtain ⟨z0, z1⟩ := rd_bd h 0
  induction d with
  | zero =>
    intro i h0 hi hd
    refine Ev.step (fun k => ?_) (loop1 h hl hp l.length 0 (by omega) (by omega))
    simp only [doormanlaw13_LatchFirst.l0]
    rw [if_neg (by omega), if_neg (by omega), owner _ z0 z1]
    simp only [Option.bind_some]
    rw [if_pos (by omega), keep (a := rd l 0) z0 (by omega), if_pos rfl]
  | succ d ih =>
    intro i h0 hi hd
    by_cases hlt : i < (l.length : Int)
    · obtain ⟨i0, i1⟩ := rd_bd h i
      refine Ev.step (fun k => ?_) (ih (i + 1) (by omega) (by omega) (by omega))
      simp only [doormanlaw13_LatchFirst.l0]
      rw [if_pos hlt, if_pos (by omega), keep (a := rd l i) i0 (by omega), take _ _ z0 i0]
      simp only [Option.bind_some]
      rw [show (i == 0) = false from beq_eq_false_iff_ne.2 (by omega), keep (a := i + 1) (by omega) (by omega)]
      rfl
    · refine Ev.step (fun k => ?_) (loop1 h hl hp l.length 0 (by omega) (by omega))
      simp only [doormanlaw13_LatchFirst.l0]
      rw [if_neg (by omega), if_neg (by omega), owner _ z0 z1]
      simp only [Option.bind_some]
      rw [if_pos (by omega), keep (a := rd l 0) z0 (by omega), if_pos rfl]
end

theorem whole (l : List Int) (h : ∀ x ∈ l, (Lit.int .u8 x).wf = true) (hl : l.length ≤ 400) : Ev (fun k => doormanlaw13_LatchFirst.l0 k l 0 0) true := by
  obtain ⟨z0, z1⟩ := rd_bd h 0
  by_cases hp : 0 < l.length
  · refine Ev.step (fun k => ?_) (loop0 h hl hp l.length 1 (by omega) (by omega) (by omega))
    simp only [doormanlaw13_LatchFirst.l0]
    rw [if_pos (by omega), if_pos (by omega), keep (a := rd l 0) z0 (by omega), take0 _ z0 z1, keep (a := 0 + 1) (by omega) (by omega)]
    rfl
  · refine Ev.step (f := fun _ => some true) (fun k => ?_) (Ev.now _)
    simp only [doormanlaw13_LatchFirst.l0]
    rw [if_neg (by omega), if_pos (by omega)]
    rfl
end LatchFirst

theorem LatchFirst : doormanlaw13_LatchFirst.Pure := by
  intro l _ _ h
  refine Ev.rounds (g := fun k => doormanlaw13_LatchFirst.f k l) ?_
  by_cases hl : l.length ≤ 400
  · refine Ev.congr (f := fun k => doormanlaw13_LatchFirst.j0 k l false) (fun k => ?_) (Ev.step (fun k => ?_) (LatchFirst.whole l h hl))
    · unfold doormanlaw13_LatchFirst.f
      rw [LatchFirst.awake, decide_eq_false (by omega)]
      rfl
    · simp [doormanlaw13_LatchFirst.j0]
  · refine Ev.congr (f := fun k => doormanlaw13_LatchFirst.j0 k l true) (fun k => ?_) (Ev.step (f := fun _ => some true) (fun k => ?_) (Ev.now _))
    · unfold doormanlaw13_LatchFirst.f
      rw [LatchFirst.awake, decide_eq_true (by omega)]
      rfl
    · simp [doormanlaw13_LatchFirst.j0, LatchFirst.awake]

end Go.Proofs.Ythmfcaieigclkaa.Pure
