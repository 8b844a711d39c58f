/- One act of LatchOne, read out of memory: a bool and a number. -/
import Derived.Test.YthmfcaieigclkaaOpens
import Derived.Test.YthmfcaieigclkaaPLatchOnex0
import Derived.Test.YthmfcaieigclkaaRows
import Derived.ChangeSame
namespace Go.Proofs.Ythmfcaieigclkaa.LatchOne
open Go.ChangeShapes Go.WideShapes Go.Proofs.Ythmfcaieigclkaa.PLatchOne
theorem cells4 : Try.prog.cellsOf 4 = 1 := by kernel_rfl
theorem cells3 : Try.prog.cellsOf 3 = 1 := by kernel_rfl
theorem elem {H : Type} {enc : TypeId × Value → H} {w : World} {base : Nat} {spare : Nat → Bool} {held : Bool} : Opens.Elem enc Try.prog w base spare held 27 k27 (fun y => (Lit.int .i64 y.f1).wf = true) := by
  intro fuel cs x hlen h
  obtain ⟨y0, y1, n, _, _, h0, h1⟩ := trod_struct2 Try.underlying27 h
  have hl2 : cs.length = 2 := hlen
  obtain ⟨a, b, rfl⟩ : ∃ a b, cs = [a, b] := by
    match cs, hl2 with
    | [a, b], _ => exact ⟨a, b, rfl⟩
  dsimp only at h0 h1
  rw [cells4] at h0
  rw [cells3] at h1
  obtain ⟨g, hg, _⟩ := DataW.trod_bool Try.underlying4 h0
  obtain ⟨v, hv, _, hw⟩ := DataW.trod_int Try.underlying3 h1
  obtain rfl : a = .bool g := by simpa using hg
  obtain rfl : b = .int .i64 v := by simpa using hv
  exact ⟨⟨g, v⟩, k27_mk w ⟨g, v⟩, hw⟩
end Go.Proofs.Ythmfcaieigclkaa.LatchOne
