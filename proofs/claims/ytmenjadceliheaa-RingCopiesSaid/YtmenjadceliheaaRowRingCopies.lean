/- The row of the law RingCopies: for every uint8 and every two slices of int the law returns true and the slices read as before. No other condition. -/
import Derived.Test.YtmenjadceliheaaRows
import Derived.Test.YtmenjadceliheaaOpens
import Derived.Test.YtmenjadceliheaaSizedRow
import Derived.Test.YtmenjadceliheaaWalkRingCopies
import Derived.WalkKit
import Derived.ProofKit
import Derived.OpenShut
import Derived.ShutString
import Derived.ChangeOld
import Derived.Below
import Derived.SizedLaws
namespace Go.Proofs.Ytmenjadceliheaa.ringCopies
open Go.ChangeShapes Go.WideShapes Go.ChangeAt Go.RowKit Go.Proofs.YtmenjadceliheaaW.PrintWords
theorem own : ownKnob Try.prog.godebug = none := by kernel_rfl
theorem laidOut : laidOutB Try.prog = true := by kernel_rfl
set_option maxRecDepth 100000 in
theorem lifted (os : Os) (started : os.Started) (H : Type) (enc : TypeId × Value → H) :
    ReturnsInHanded {} Try.checked os 7 .any (Rows.ringCopiesSpec.pre6 enc Try.prog Try.f7 Rows.ringCopiesRow.domain false) (Rows.ringCopiesSpec.post enc Try.prog Try.f7 false true false false) := by
  refine returnsInHanded_of_change_sized (C := Try.checked) own started (by kernel_rfl) Try.func7
    (ChangeSpec.witness6 (enc := enc) (C := Try.checked) false ⟨#[], #[.int .u8 0, .slice none 0 0, .slice none 0 0], []⟩ 8 (by kernel_rfl) (by kernel_rfl) (by kernel_rfl) (by kernel_rfl)) ?_
  intro W base args ds gs before hval0 hW _ hsz0 _
  have hsz : (DataW.weightsEach Try.prog (Try.f7.params.toList ++ Rows.ringCopiesSpec.plain.varTypes Try.prog) (ds ++ gs)).all (· ≤ reachBytes) = true := hsz0
  have hval : ∀ (j : Nat) t v, Try.f7.params[j]? = some t → args[j]? = some v → Value.okWide Try.prog W .any base t v := hval0
  have hW' := hW
  obtain ⟨p, q, hA0, hV, rfl, hfz, hnd⟩ := hW
  have hA : DataW.TrodAll enc Try.prog W 0 (fun _ => true) true Try.f7.params.toList args.toList ds p := hA0
  rw [Try.params7] at hA hval hsz
  obtain ⟨v0, vs0, d0, ds0, p0, q0, hargs, rfl, rfl, h0, r0⟩ := trodAll_cons hA
  obtain ⟨v1, vs1, d1, ds1, p1, q1, rfl, rfl, rfl, h1, r1⟩ := trodAll_cons r0
  obtain ⟨v2, vs2, d2, ds2, p2, q2, rfl, rfl, rfl, h2, r2⟩ := trodAll_cons r1
  obtain ⟨rfl, rfl, rfl⟩ := trodAll_nil r2
  obtain rfl : args = #[v0, v1, v2] := by cases args; simp_all
  obtain ⟨rfl, rfl⟩ := trodVars_none hV
  obtain ⟨a0, rfl, rfl, rfl, w0⟩ := open_int Try.underlying5 (hval 0 5 v0 rfl rfl) h0
  have k1 := h1
  have lt1 : ∀ x ∈ p1, x.block < W.heap.size := by intro x hx; exact hW'.lt x (by simp [hx])
  obtain ⟨fuel1, hf1⟩ := h1
  obtain ⟨A1, c1, x1, hcs1, hc1, hr1, hq1⟩ := Opens.row (d := (Kd.int .i64)) Try.underlying26 (by kernel_rfl) (Opens.elem_int Try.underlying3) hf1
  obtain ⟨aa1, len1, cap1, rfl⟩ := okWide_slice Try.underlying26 (hval 1 26 v1 rfl rfl)
  simp only [Value.cells] at hcs1
  obtain ⟨rfl, rfl, rfl⟩ : aa1 = A1 ∧ len1 = x1.length ∧ cap1 = c1 := by simpa using hcs1
  have y1 : x1.length * 8 ≤ 140737488351232 := Opens.sized_row hsz (j := 1) (t := 26) rfl rfl Try.underlying26 (by kernel_rfl) k1
  have k2 := h2
  have lt2 : ∀ x ∈ p2, x.block < W.heap.size := by intro x hx; exact hW'.lt x (by simp [hx])
  obtain ⟨fuel2, hf2⟩ := h2
  obtain ⟨A2, c2, x2, hcs2, hc2, hr2, hq2⟩ := Opens.row (d := (Kd.int .i64)) Try.underlying26 (by kernel_rfl) (Opens.elem_int Try.underlying3) hf2
  obtain ⟨aa2, len2, cap2, rfl⟩ := okWide_slice Try.underlying26 (hval 2 26 v2 rfl rfl)
  simp only [Value.cells] at hcs2
  obtain ⟨rfl, rfl, rfl⟩ : aa2 = A2 ∧ len2 = x2.length ∧ cap2 = c2 := by simpa using hcs2
  have y2 : x2.length * 8 ≤ 140737488351232 := Opens.sized_row hsz (j := 2) (t := 26) rfl rfl Try.underlying26 (by kernel_rfl) k2
  clear hA0 hval0 hsz0 hsz
  refine (RingCopies.walk a0 aa1 cap1 x1 aa2 cap2 x2 W w0 hr1 hc1 hq1 y1 hr2 hc2 hq2 y2).mono fun e W' ⟨he, bel⟩ => ?_
  subst he
  exact ⟨_, rfl, _, _, _, [], _, [], hW', trodAll_mk1 (shut_bool Try.underlying4 _), (trodAll_cons_mk (shut_int Try.underlying5 w0) (trodAll_cons_mk (Below.trod laidOut (by kernel_rfl) (of_decide_eq_true (by kernel_rfl)) k1 bel lt1) (trodAll_cons_mk (Below.trod laidOut (by kernel_rfl) (of_decide_eq_true (by kernel_rfl)) k2 bel lt2) trodAll_mk0))), rfl, bel.frame _, fun h => by cases h⟩
theorem over : Rows.ringCopiesRow.holds Try.pinned (OpenSpec.ofChange Rows.ringCopiesSpec) :=
  OpenClaim.holds_of_wide 7 Try.f7 rfl rfl rfl rfl rfl rfl rfl ⟨rfl, rfl, rfl, rfl, rfl⟩ rfl rfl rfl rfl rfl (by kernel_rfl) Try.func7 (by kernel_rfl)
    (of_decide_eq_true (by kernel_rfl)) (by unfold Func.isWrapper; first | (rw [if_pos (by decide +kernel)]; kernel_rfl) | (rw [if_neg (by decide +kernel)]; exact ⟨rfl, rfl⟩))
    (fun os started H enc _ => lifted os started H enc)
end Go.Proofs.Ytmenjadceliheaa.ringCopies
namespace Go.Proofs.Ytmenjadceliheaa
theorem ringCopies_holds : Rows.RingCopiesSaid := ringCopies.over
end Go.Proofs.Ytmenjadceliheaa
