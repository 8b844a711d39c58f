/- Same of one row twice; what a queue holds after so many puts; a region of two puts. -/
import Derived.Test.YtmenjadceliheaaRingAwake
import Derived.Deep.QuietTactic
import Derived.Deep.RegionHeld3
import Derived.Deep.DrawnRows
namespace Go.Proofs.Ytmenjadceliheaa.RingInv
open Go.RowKit Go.Proofs.Ytmenjadceliheaa.PRingPlays Go.Proofs.YtmenjadceliheaaW.PrintWords Go.Proofs.YtmenjadceliheaaW.PrintLast
theorem same_l0 (xs : List Int) (hl : xs.length ≤ 1000000) (d : Nat) : ∀ i : Nat, i ≤ xs.length → xs.length - i = d → Ev (fun k => doormanref03_Same.l0 k xs xs (i : Int)) true := by
  induction d with
  | zero =>
    intro i hi hd
    refine Ev.step (f := fun _ => some true) (fun k => ?_) (Ev.now _)
    simp only [doormanref03_Same.l0]
    rw [if_neg (by omega)]
  | succ d ih =>
    intro i hi hd
    refine Ev.step (fun k => ?_) (ih (i + 1) (by omega) (by omega))
    simp only [doormanref03_Same.l0]
    rw [if_pos (by omega), if_pos (by omega), if_pos trivial, keep (a := (i : Int) + 1) (by omega) (by omega)]
    first | rfl | (rw [if_pos (by omega)]; rfl)
theorem same_any (xs : List Int) (A1 A2 : Option Addr) (c1 c2 : Nat) (W : World) (hl : xs.length ≤ 1000000) (h1 : Kd.C (Kd.int .i64) W A1 xs.length xs) (hc1 : xs.length ≤ c1) (h2 : Kd.C (Kd.int .i64) W A2 xs.length xs) (hc2 : xs.length ≤ c2) :
    Calls Try.prog 11 #[.slice A1 xs.length c1, .slice A2 xs.length c2] W fun e w' => e = .returned (.bool true) ∧ ∃ n, w' = W.drewN n := by
  obtain ⟨k, hk⟩ := (same_l0 xs hl xs.length 0 (by omega) (by omega)).rounds
  refine (doormanref03_Same.calls k A1 c1 xs A2 c2 xs true W h1 hc1 h2 hc2 (by unfold doormanref03_Same.f; rw [if_pos rfl]; exact hk)).mono fun _ _ ⟨h, d⟩ => ⟨h, d.out⟩
theorem take_len {α : Type} (l : List α) (i m : Nat) (hi : i ≤ l.length) : (l.take (min i m)).length = min i m := by rw [List.length_take]; omega
theorem put_step {α : Type} (l : List α) (i m : Nat) (hi : i < l.length) : (if ((l.take (min i m)).length : Int) < (m : Int) then l.take (min i m) ++ [l[i]] else l.take (min i m)) = l.take (min (i + 1) m) := by
  rw [take_len l i m (by omega)]
  by_cases h : i < m
  · rw [if_pos (by omega), show min i m = i by omega, show min (i + 1) m = i + 1 by omega, List.take_succ_eq_append_getElem hi]
  · rw [if_neg (by omega), show min i m = m by omega, show min (i + 1) m = m by omega]
theorem put_told {α : Type} (l : List α) (i m : Nat) (hi : i < l.length) : decide (((l.take (min i m)).length : Int) < (m : Int)) = decide ((i : Int) < (m : Int)) := by
  rw [take_len l i m (by omega), decide_eq_decide]
  omega
theorem put_lost {α : Type} (l : List α) (i m : Nat) (hi : i < l.length) : (decide (m < i) || !decide (((l.take (min i m)).length : Int) < (m : Int))) = decide (m < i + 1) := by
  rw [put_told l i m hi]
  by_cases h : i < m
  · rw [decide_eq_true (show (i : Int) < m by omega), decide_eq_false (show ¬ m < i by omega), decide_eq_false (show ¬ m < i + 1 by omega)]; rfl
  · rw [decide_eq_false (show ¬ (i : Int) < m by omega), decide_eq_true (show m < i + 1 by omega)]; simp
end Go.Proofs.Ytmenjadceliheaa.RingInv
