/- Who takes a free lock may give it back and then it is free; who does not have it may not: the law LatchBack answers true. For every two arguments of the type uint8; no other condition. -/
import Derived.Test.YthmfcaieigclkaaPLatchBackx1
import Derived.OpenShut
namespace Go.Proofs.Ythmfcaieigclkaa.Pure
open Go.RowKit Go.Proofs.Ythmfcaieigclkaa.PLatchBack Go.Proofs.YthmfcaieigclkaaW.PrintWords Go.Proofs.YthmfcaieigclkaaW.PrintLast

theorem LatchBack.byte {a : Int} (h : (Lit.int .u8 a).wf = true) : 0 ≤ a ∧ a ≤ 255 := by
  exact bounds_u8 h
theorem LatchBack.keep {a : Int} (h0 : 0 ≤ a) (h1 : a ≤ 256) : wrap64 a = a := by unfold wrap64; omega
theorem LatchBack.awake : doormanlaw13_awake.f = some true := by decide +kernel

theorem LatchBack : doormanlaw13_LatchBack.Pure := by
  intro a0 a1 w0 w1
  obtain ⟨l0, h0⟩ := LatchBack.byte w0
  obtain ⟨l1, h1⟩ := LatchBack.byte w1
  unfold doormanlaw13_LatchBack.f
  rw [LatchBack.awake]
  simp only [Option.bind_some, if_true]
  rw [LatchBack.keep l0 (by omega), LatchBack.keep l1 (by omega)]
  have e1 : latch_Latch_Take.f 0 a0 = some (a0 + 1, true) := by
    unfold latch_Latch_Take.f latch_Latch_Free.f
    rw [if_neg (by omega), LatchBack.keep (by omega) (by omega)]
    rfl
  have free (x : Int) (hx : 0 ≤ x) : latch_Latch_Free.f (x + 1) = some false := by
    unfold latch_Latch_Free.f
    rw [beq_eq_false_iff_ne.2 (by omega)]
  have owner (x : Int) (hx : 0 ≤ x) (hx' : x ≤ 255) : latch_Latch_Owner.f (x + 1) = some x := by
    unfold latch_Latch_Owner.f
    rw [show x + 1 - 1 = x from by omega, LatchBack.keep hx (by omega)]
  have give (x y : Int) (hx : 0 ≤ x) (hx' : x ≤ 255) : latch_Latch_Give.f (x + 1) y = if x = y then some (0, true) else some (x + 1, false) := by
    unfold latch_Latch_Give.f
    rw [free x hx]
    simp only [Option.bind_some]
    rw [if_neg (by decide), owner x hx hx']
    simp only [Option.bind_some]
  have none_ (y : Int) : latch_Latch_Give.f 0 y = some (0, false) := by rfl
  have free0 : latch_Latch_Free.f 0 = some true := rfl
  have owner0 : latch_Latch_Owner.f 0 = some (-1) := by decide +kernel
  rw [e1]
  simp only [Option.bind_some, if_true]
  rw [give a0 a1 l0 h0]
  by_cases e : a0 = a1
  · subst e
    rw [if_pos rfl]
    simp only [Option.bind_some]
    rw [none_]
    simp only [Option.bind_some]
    rw [none_]
    simp only [Option.bind_some]
    rw [free0, owner0]
    simp
  · rw [if_neg e]
    simp only [Option.bind_some]
    rw [give a0 a0 l0 h0, if_pos rfl]
    simp only [Option.bind_some]
    rw [none_]
    simp only [Option.bind_some]
    rw [free0, owner0]
    simp [e]

end Go.Proofs.Ythmfcaieigclkaa.Pure
