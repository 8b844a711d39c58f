/- Whether numbers rise is the document's: the law LatchRises answers true. For every slice of int; no other condition. -/
import Derived.Test.YthmfcaieigclkaaPLatchRisesx1
namespace Go.Proofs.Ythmfcaieigclkaa.Pure
open Go.RowKit Go.Proofs.Ythmfcaieigclkaa.PLatchRises Go.Proofs.YthmfcaieigclkaaW.PrintWords Go.Proofs.YthmfcaieigclkaaW.PrintLast

namespace LatchRises
theorem keep {a : Int} (h0 : -1 ≤ a) (h1 : a ≤ 1000) : wrap64 a = a := by unfold wrap64; omega
theorem awake : doormanlaw13_awake.f = some true := by decide +kernel
/-- Each neighbour rises, up to place n. -/
def Adj (l : List Int) (n : Int) : Prop := ∀ a : Int, 1 ≤ a → a < n → rd l (a - 1) < rd l a
/-- Each pair rises, up to place n. -/
def All (l : List Int) (n : Int) : Prop := ∀ a b : Int, 0 ≤ a → a < b → b < n → rd l a < rd l b
theorem all_of_adj {l : List Int} {n : Int} (h : Adj l n) : All l n := by
  have key (d : Nat) : ∀ a b : Int, 0 ≤ a → b - a = d + 1 → b < n → rd l a < rd l b := by
    induction d with
    | zero =>
      intro a b ha hb hn
      have := h b (by omega) hn
      rwa [show b - 1 = a from by omega] at this
    | succ d ih =>
      intro a b ha hb hn
      have h1 := ih a (b - 1) ha (by omega) (by omega)
      have h2 := h b (by omega) hn
      omega
  intro a b ha hab hb
  exact key (b - a - 1).toNat a b ha (by omega) hb
theorem adj_of_all {l : List Int} {n : Int} (h : All l n) : Adj l n := fun a h1 hn => h (a - 1) a (by omega) (by omega) hn

section
variable {l : List Int} (hl : l.length ≤ 400)
include hl

theorem rises (d : Nat) : ∀ i : Int, 1 ≤ i → (l.length : Int) - i ≤ d → Adj l i → ∃ r, Ev (fun k => latch_Rises.l0 k l i) r ∧ (r = true ↔ Adj l l.length) := by
  have last (i : Int) (hi : ¬ i < (l.length : Int)) (ha : Adj l i) : ∃ r, Ev (fun k => latch_Rises.l0 k l i) r ∧ (r = true ↔ Adj l l.length) := by
    refine ⟨true, Ev.step (f := fun _ => some true) (fun k => ?_) (Ev.now _), fun _ a h1 hn => ha a h1 (by omega), fun _ => rfl⟩
    simp only [latch_Rises.l0]
    rw [if_neg hi]
  induction d with
  | zero => exact fun i _ hd ha => last i (by omega) ha
  | succ d ih =>
    intro i h1 hd ha
    by_cases hlt : i < (l.length : Int)
    · by_cases hr : rd l i ≤ rd l (i - 1)
      · refine ⟨false, Ev.step (f := fun _ => some false) (fun k => ?_) (Ev.now _), fun q => (by cases q), fun q => ?_⟩
        · simp only [latch_Rises.l0]
          rw [if_pos hlt, if_pos (by omega), keep (a := i - 1) (by omega) (by omega), if_pos (by omega), if_pos (by omega), if_pos hr]
        · have := q i h1 hlt
          omega
      · obtain ⟨r, hev, hiff⟩ := ih (i + 1) (by omega) (by omega) (fun a a1 an => by
          by_cases e : a = i
          · subst e; omega
          · exact ha a a1 (by omega))
        refine ⟨r, Ev.step (fun k => ?_) hev, hiff⟩
        simp only [latch_Rises.l0]
        rw [if_pos hlt, if_pos (by omega), keep (a := i - 1) (by omega) (by omega), if_pos (by omega), if_pos (by omega), if_neg hr, keep (a := i + 1) (by omega) (by omega)]
    · exact last i hlt ha

theorem outer (d : Nat) : ∀ (i : Int) (x : Bool), 0 ≤ i → (l.length : Int) - i ≤ d → i ≤ l.length → (x = true ↔ All l i) → Ev (fun k => doormanlaw13_LatchRises.l0 k l x i) true := by
  have last (i : Int) (x : Bool) (hi : ¬ i < (l.length : Int)) (hi' : i ≤ l.length) (hx : x = true ↔ All l i) : Ev (fun k => doormanlaw13_LatchRises.l0 k l x i) true := by
    obtain rfl : i = l.length := by omega
    obtain ⟨r, hev, hiff⟩ := rises hl l.length 1 (by omega) (by omega) (fun a h1 hn => by omega)
    have e : (r == x) = true := by
      rw [beq_iff_eq, Bool.eq_iff_iff, hiff, hx]
      exact ⟨all_of_adj, adj_of_all⟩
    refine Ev.step (f := fun k => (latch_Rises.f k l).bind fun t => some (t == x)) (fun k => ?_) (Ev.bind hev ?_)
    · simp only [doormanlaw13_LatchRises.l0]
      rw [if_neg hi]
    · rw [e]; exact Ev.now _
  induction d with
  | zero => exact fun i x _ hd hi hx => last i x (by omega) hi hx
  | succ d ih =>
    intro i x h0 hd hi hx
    by_cases hlt : i < (l.length : Int)
    · have inner (e : Nat) : ∀ (j : Int) (y : Bool), 0 ≤ j → i - j ≤ e → j ≤ i → (y = true ↔ All l i ∧ ∀ a, 0 ≤ a → a < j → rd l a < rd l i) → Ev (fun k => doormanlaw13_LatchRises.l1 k l y i j) true := by
        have lasti (j : Int) (y : Bool) (hj : ¬ j < i) (hj' : j ≤ i) (hy : y = true ↔ All l i ∧ ∀ a, 0 ≤ a → a < j → rd l a < rd l i) : Ev (fun k => doormanlaw13_LatchRises.l1 k l y i j) true := by
          refine Ev.step (fun k => ?_) (ih (i + 1) y (by omega) (by omega) (by omega) (hy.trans ⟨fun q a b ha hab hb => ?_, fun q => ⟨fun a b ha hab hb => q a b ha hab (by omega), fun a ha haj => q a i ha (by omega) (by omega)⟩⟩))
          · simp only [doormanlaw13_LatchRises.l1]
            rw [if_neg hj, keep (a := i + 1) (by omega) (by omega)]
          · by_cases eb : b = i
            · subst eb; exact q.2 a ha (by omega)
            · exact q.1 a b ha hab (by omega)
        induction e with
        | zero => exact fun j y _ hd hj hy => lasti j y (by omega) hj hy
        | succ e ihe =>
          intro j y hj0 hde hji hy
          by_cases hjl : j < i
          · cases y with
            | false =>
              refine Ev.step (fun k => ?_) (ihe (j + 1) false (by omega) (by omega) (by omega) ⟨fun q => (by cases q), fun q => absurd (hy.2 ⟨q.1, fun a ha haj => q.2 a ha (by omega)⟩) (by decide)⟩)
              simp only [doormanlaw13_LatchRises.l1]
              rw [if_pos hjl, if_neg (by decide), keep (a := j + 1) (by omega) (by omega)]
            | true =>
              have hy1 := hy.1 rfl
              refine Ev.step (fun k => ?_) (ihe (j + 1) (decide (rd l j < rd l i)) (by omega) (by omega) (by omega) ⟨fun q => ⟨hy1.1, fun a ha haj => ?_⟩, fun q => decide_eq_true (q.2 j hj0 (by omega))⟩)
              · simp only [doormanlaw13_LatchRises.l1]
                rw [if_pos hjl, if_pos True.intro, if_pos hj0, if_pos (by omega), if_pos h0, if_pos hlt, keep (a := j + 1) (by omega) (by omega)]
              · by_cases ea : a = j
                · subst ea; exact of_decide_eq_true q
                · exact hy1.2 a ha (by omega)
          · exact lasti j y hjl hji hy
      refine Ev.step (fun k => ?_) (inner i.toNat 0 x (by omega) (by omega) (by omega) (hx.trans ⟨fun q => ⟨q, fun a h0 h1 => by omega⟩, fun q => q.1⟩))
      simp only [doormanlaw13_LatchRises.l0]
      rw [if_pos hlt]
    · exact last i x hlt hi hx
end
end LatchRises

theorem LatchRises : doormanlaw13_LatchRises.Pure := by
  intro l _ _ _
  refine Ev.rounds (g := fun k => doormanlaw13_LatchRises.f k l) ?_
  by_cases hl : l.length ≤ 400
  · refine Ev.congr (f := fun k => doormanlaw13_LatchRises.j0 k l false) (fun k => ?_) (Ev.step (fun k => ?_) (LatchRises.outer hl l.length 0 true (by omega) (by omega) (by omega) ⟨fun _ a b h0 h1 h2 => by omega, fun _ => rfl⟩))
    · unfold doormanlaw13_LatchRises.f
      rw [LatchRises.awake, decide_eq_false (by omega)]
      rfl
    · simp [doormanlaw13_LatchRises.j0]
  · refine Ev.congr (f := fun k => doormanlaw13_LatchRises.j0 k l true) (fun k => ?_) (Ev.step (f := fun _ => some true) (fun k => ?_) (Ev.now _))
    · unfold doormanlaw13_LatchRises.f
      rw [LatchRises.awake, decide_eq_true (by omega)]
      rfl
    · simp [doormanlaw13_LatchRises.j0, LatchRises.awake]

end Go.Proofs.Ythmfcaieigclkaa.Pure
