/- The row of the law HashBoth: for every two slices of string and every uint8 the law returns true and the slices read as before. No other condition. -/
import Derived.Test.YtbhngcjiciinpaaRows
import Derived.Test.YtbhngcjiciinpaaOpens
import Derived.Test.YtbhngcjiciinpaaSizedRow
import Derived.Test.YtbhngcjiciinpaaWalkHashBoth
import Derived.WalkKit
import Derived.ProofKit
import Derived.OpenShut
import Derived.ShutString
import Derived.ChangeOld
import Derived.Below
import Derived.SizedLaws
namespace Go.Proofs.Ytbhngcjiciinpaa.hashBoth
open Go.ChangeShapes Go.WideShapes Go.ChangeAt Go.RowKit Go.Proofs.YtbhngcjiciinpaaW.PrintWords
theorem own : ownKnob Try.prog.godebug = none := by kernel_rfl
theorem laidOut : laidOutB Try.prog = true := by kernel_rfl
set_option maxRecDepth 100000 in
theorem lifted (os : Os) (started : os.Started) (H : Type) (enc : TypeId × Value → H) :
    ReturnsInHanded {} Try.checked os 7 .any (Rows.hashBothSpec.pre6 enc Try.prog Try.f7 Rows.hashBothRow.domain false) (Rows.hashBothSpec.post enc Try.prog Try.f7 false true false false) := by
  refine returnsInHanded_of_change_sized (C := Try.checked) own started (by kernel_rfl) Try.func7
    (ChangeSpec.witness6 (enc := enc) (C := Try.checked) false ⟨#[], #[.slice none 0 0, .slice none 0 0, .int .u8 0], []⟩ 8 (by kernel_rfl) (by kernel_rfl) (by kernel_rfl) (by kernel_rfl)) ?_
  intro W base args ds gs before hval0 hW _ hsz0 _
  have hsz : (DataW.weightsEach Try.prog (Try.f7.params.toList ++ Rows.hashBothSpec.plain.varTypes Try.prog) (ds ++ gs)).all (· ≤ reachBytes) = true := hsz0
  have hval : ∀ (j : Nat) t v, Try.f7.params[j]? = some t → args[j]? = some v → Value.okWide Try.prog W .any base t v := hval0
  have hW' := hW
  obtain ⟨p, q, hA0, hV, rfl, hfz, hnd⟩ := hW
  have hA : DataW.TrodAll enc Try.prog W 0 (fun _ => true) true Try.f7.params.toList args.toList ds p := hA0
  rw [Try.params7] at hA hval hsz
  obtain ⟨v0, vs0, d0, ds0, p0, q0, hargs, rfl, rfl, h0, r0⟩ := trodAll_cons hA
  obtain ⟨v1, vs1, d1, ds1, p1, q1, rfl, rfl, rfl, h1, r1⟩ := trodAll_cons r0
  obtain ⟨v2, vs2, d2, ds2, p2, q2, rfl, rfl, rfl, h2, r2⟩ := trodAll_cons r1
  obtain ⟨rfl, rfl, rfl⟩ := trodAll_nil r2
  obtain rfl : args = #[v0, v1, v2] := by cases args; simp_all
  obtain ⟨rfl, rfl⟩ := trodVars_none hV
  have k0 := h0
  have lt0 : ∀ x ∈ p0, x.block < W.heap.size := by intro x hx; exact hW'.lt x (by simp [hx])
  obtain ⟨fuel0, hf0⟩ := h0
  obtain ⟨A0, c0, x0, hcs0, hc0, hr0, hq0⟩ := Opens.row (d := Kd.string) Try.underlying29 (by kernel_rfl) (Opens.elem_string Try.underlying9) hf0
  obtain ⟨aa0, len0, cap0, rfl⟩ := okWide_slice Try.underlying29 (hval 0 29 v0 rfl rfl)
  simp only [Value.cells] at hcs0
  obtain ⟨rfl, rfl, rfl⟩ : aa0 = A0 ∧ len0 = x0.length ∧ cap0 = c0 := by simpa using hcs0
  have y0 : x0.length * 16 ≤ 140737488351232 := Opens.sized_row hsz (j := 0) (t := 29) rfl rfl Try.underlying29 (by kernel_rfl) k0
  have k1 := h1
  have lt1 : ∀ x ∈ p1, x.block < W.heap.size := by intro x hx; exact hW'.lt x (by simp [hx])
  obtain ⟨fuel1, hf1⟩ := h1
  obtain ⟨A1, c1, x1, hcs1, hc1, hr1, hq1⟩ := Opens.row (d := Kd.string) Try.underlying29 (by kernel_rfl) (Opens.elem_string Try.underlying9) hf1
  obtain ⟨aa1, len1, cap1, rfl⟩ := okWide_slice Try.underlying29 (hval 1 29 v1 rfl rfl)
  simp only [Value.cells] at hcs1
  obtain ⟨rfl, rfl, rfl⟩ : aa1 = A1 ∧ len1 = x1.length ∧ cap1 = c1 := by simpa using hcs1
  have y1 : x1.length * 16 ≤ 140737488351232 := Opens.sized_row hsz (j := 1) (t := 29) rfl rfl Try.underlying29 (by kernel_rfl) k1
  obtain ⟨a2, rfl, rfl, rfl, w2⟩ := open_int Try.underlying5 (hval 2 5 v2 rfl rfl) h2
  clear hA0 hval0 hsz0 hsz
  refine (HashBoth.walk aa0 cap0 x0 aa1 cap1 x1 a2 W hr0 hc0 hq0 y0 hr1 hc1 hq1 y1 w2).mono fun e W' ⟨he, bel⟩ => ?_
  subst he
  exact ⟨_, rfl, _, _, _, [], _, [], hW', trodAll_mk1 (shut_bool Try.underlying4 _), (trodAll_cons_mk (Below.trod laidOut (by kernel_rfl) (of_decide_eq_true (by kernel_rfl)) k0 bel lt0) (trodAll_cons_mk (Below.trod laidOut (by kernel_rfl) (of_decide_eq_true (by kernel_rfl)) k1 bel lt1) (trodAll_cons_mk (shut_int Try.underlying5 w2) trodAll_mk0))), rfl, bel.frame _, fun h => by cases h⟩
theorem over : Rows.hashBothRow.holds Try.pinned (OpenSpec.ofChange Rows.hashBothSpec) :=
  OpenClaim.holds_of_wide 7 Try.f7 rfl rfl rfl rfl rfl rfl rfl ⟨rfl, rfl, rfl, rfl, rfl⟩ rfl rfl rfl rfl rfl (by kernel_rfl) Try.func7 (by kernel_rfl)
    (of_decide_eq_true (by kernel_rfl)) (by unfold Func.isWrapper; first | (rw [if_pos (by decide +kernel)]; kernel_rfl) | (rw [if_neg (by decide +kernel)]; exact ⟨rfl, rfl⟩))
    (fun os started H enc _ => lifted os started H enc)
end Go.Proofs.Ytbhngcjiciinpaa.hashBoth
namespace Go.Proofs.Ytbhngcjiciinpaa
theorem hashBoth_holds : Rows.HashBothSaid := hashBoth.over
end Go.Proofs.Ytbhngcjiciinpaa
