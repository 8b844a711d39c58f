/- Whatever is begun and ended, all that an epoch tells is the document's: the plain part of the law CellPlays, for every bound and every row of bools. -/
import Derived.Test.YtghhjmdolmadeaaPCellPlaysx1
import Derived.Test.YtghhjmdolmadeaaCellBits
namespace Go.Proofs.Ytghhjmdolmadeaa.PureCellPlays
open Go.RowKit Go.Proofs.Ytghhjmdolmadeaa.PCellPlays Go.Proofs.YtghhjmdolmadeaaW.PrintWords Go.Proofs.YtghhjmdolmadeaaW.PrintLast Go.Proofs.Ytghhjmdolmadeaa.CellBits
theorem keep {a : Int} (h0 : 0 ≤ a) (h1 : a ≤ 1000) : wrap64 a = a := by unfold wrap64; omega
theorem awake : doormanlaw05_awake.f = some true := by decide +kernel
theorem value (v b : Int) : cell_Cell_Value.f v b = some v := rfl
theorem writing (v b : Int) (h0 : 0 ≤ v) (h1 : v ≤ 18446744073709551615) : cell_Cell_Writing.f v b = some (decide (v % 2 = 1)) := by
  unfold cell_Cell_Writing.f
  rw [and1 v h0 h1]
  rfl
theorem dec_beq (v : Int) : (v % 2 == 1) = decide (v % 2 = 1) := by rw [Bool.eq_iff_iff]; simp
/-- One begin, of both. -/
def beg (v b : Int) : Int := if v % 2 = 0 ∧ v < b then v + 1 else v
def fin (v : Int) : Int := if v % 2 = 1 then v + 1 else v
theorem begin_ (v b : Int) (h0 : 0 ≤ v) (h1 : v ≤ 18446744073709551614) : cell_Cell_Begin.f v b = some (beg v b, b) := by
  unfold cell_Cell_Begin.f cell_Cell_Spent.f beg
  simp only [Option.bind_some]
  by_cases h : b ≤ v
  · rw [if_pos (by simpa using h), if_neg (by omega)]
  · rw [if_neg (by simpa using h), writing v b h0 (by omega)]
    simp only [Option.bind_some]
    by_cases e : v % 2 = 1
    · rw [decide_eq_true e, if_pos rfl, if_neg (by omega)]
    · rw [decide_eq_false e, if_neg (by decide), if_pos (by omega), wrapIn _ (by omega) (by omega)]
theorem end_ (v b : Int) (h0 : 0 ≤ v) (h1 : v ≤ 18446744073709551614) : cell_Cell_End.f v b = some (fin v, b) := by
  unfold cell_Cell_End.f fin
  rw [writing v b h0 (by omega)]
  simp only [Option.bind_some]
  by_cases h : v % 2 = 1
  · rw [decide_eq_true h, if_pos rfl, if_pos h, wrapIn _ (by omega) (by omega)]
  · rw [decide_eq_false h, if_neg (by decide), if_neg h]
theorem bound_ (b : Int) (h0 : 0 ≤ b) (h1 : b ≤ 18446744073709551615) : doormanref05_Bound.f b = some (b - b % 2) := by
  unfold doormanref05_Bound.f
  rw [tmod2 _ h0, wrapIn _ (by omega) (by omega)]
theorem refBegin (v b : Int) (v0 : 0 ≤ v) (v1 : v ≤ 18446744073709551614) (h0 : 0 ≤ b) (h1 : b ≤ 18446744073709551615) : doormanref05_Begin.f v b = some (beg v (b - b % 2)) := by
  unfold doormanref05_Begin.f beg
  rw [tmod2 _ v0, bound_ b h0 h1]
  simp only [Option.bind_some]
  by_cases e : v % 2 = 0
  · rw [if_pos e]
    by_cases l : v < b - b % 2
    · rw [if_pos l, if_pos ⟨e, l⟩, wrapIn _ (by omega) (by omega)]
    · rw [if_neg l, if_neg (fun q => l q.2)]
  · rw [if_neg e, if_neg (fun q => e q.1)]
theorem refEnd (v : Int) (v0 : 0 ≤ v) (v1 : v ≤ 18446744073709551614) : doormanref05_End.f v = some (fin v) := by
  unfold doormanref05_End.f fin
  rw [tmod2 _ v0]
  by_cases e : v % 2 = 1
  · rw [if_pos e, if_pos e, wrapIn _ (by omega) (by omega)]
  · rw [if_neg e, if_neg e]

section
variable {b : Int} (h0 : 0 ≤ b) (h1 : b ≤ 18446744073709551615) {l : List Bool} (hl : l.length ≤ 400)
include h0 h1 hl
theorem loop (d : Nat) : ∀ i v : Int, 0 ≤ i → (l.length : Int) - i ≤ d → 0 ≤ v → v ≤ b - b % 2 → Ev (fun k => doormanlaw05_CellPlays.l0 k b l v i v (b - b % 2)) true := by
  have last (i v : Int) (hi : ¬ i < (l.length : Int)) : Ev (fun k => doormanlaw05_CellPlays.l0 k b l v i v (b - b % 2)) true := by
    refine Ev.step (f := fun _ => some true) (fun k => ?_) (Ev.now _)
    simp only [doormanlaw05_CellPlays.l0]
    rw [if_neg hi]
  induction d with
  | zero => exact fun i v _ hd _ _ => last i v (by omega)
  | succ d ih =>
    intro i v hi hd v0 v1
    by_cases hlt : i < (l.length : Int)
    · have mid (u : Int) (u0 : 0 ≤ u) (u1 : u ≤ b - b % 2) : Ev (fun k => doormanlaw05_CellPlays.j2 k b l u i u (b - b % 2)) true := by
        refine Ev.step (fun k => ?_) (ih (i + 1) u (by omega) (by omega) u0 u1)
        simp only [doormanlaw05_CellPlays.j2]
        rw [value, bound_ b h0 h1, writing u _ u0 (by omega), tmod2 _ u0, keep (a := i + 1) (by omega) (by omega), dec_beq]
        simp [cell_Cell_Spent.f]
      by_cases e : rdOf false l i = true
      · refine Ev.step (fun k => ?_) (mid (beg v (b - b % 2)) (by unfold beg; split <;> omega) (by unfold beg; split <;> omega))
        simp only [doormanlaw05_CellPlays.l0]
        rw [if_pos hlt, if_pos hi, if_pos e, begin_ v _ v0 (by omega), refBegin v b v0 (by omega) h0 h1]
        rfl
      · refine Ev.step (fun k => ?_) (mid (fin v) (by unfold fin; split <;> omega) (by unfold fin; split <;> omega))
        simp only [doormanlaw05_CellPlays.l0]
        rw [if_pos hlt, if_pos hi, if_neg e, end_ v _ v0 (by omega), refEnd v v0 (by omega)]
        rfl
    · exact last i v hlt
end

theorem plays (b : Int) (h0 : 0 ≤ b) (h1 : b ≤ 18446744073709551615) (l : List Bool) : ∃ k, doormanlaw05_CellPlays.f k b l = some true := by
  refine Ev.rounds (g := fun k => doormanlaw05_CellPlays.f k b l) ?_
  by_cases hl : l.length ≤ 400
  · refine Ev.congr (f := fun k => doormanlaw05_CellPlays.j0 k b l false) (fun k => ?_) (Ev.step (fun k => ?_) (loop h0 h1 hl l.length 0 0 (by omega) (by omega) (by omega) (by omega)))
    · unfold doormanlaw05_CellPlays.f
      rw [awake, decide_eq_false (by omega)]
      rfl
    · simp only [doormanlaw05_CellPlays.j0, cell_New.f]
      rw [if_neg (by decide), andNot1 b h0 h1]
      rfl
  · refine Ev.congr (f := fun k => doormanlaw05_CellPlays.j0 k b l true) (fun k => ?_) (Ev.step (f := fun _ => some true) (fun k => ?_) (Ev.now _))
    · unfold doormanlaw05_CellPlays.f
      rw [awake, decide_eq_true (by omega)]
      rfl
    · simp [doormanlaw05_CellPlays.j0, awake]

theorem walk (b : Int) (A : Option Addr) (c : Nat) (l : List Bool) (w : World) (wb : (Lit.int .u64 b).wf = true) (hr : Kd.C Kd.bool w A l.length l) (hc : l.length ≤ c) (_ : ∀ y ∈ l, True) :
    Calls Try.prog 3 #[.int .u64 b, .slice A l.length c] w fun e w' => e = .returned (.bool true) ∧ Below w.heap.size w w' := by
  obtain ⟨h0, h1⟩ := bounds_u64 wb
  obtain ⟨k, hk⟩ := plays b h0 h1 l
  exact doormanlaw05_CellPlays.calls k b A c l true w hr hc hk
end Go.Proofs.Ytghhjmdolmadeaa.PureCellPlays
