/- One act of RingPlays, read out of memory: a bool and a number. -/
import Derived.Test.YtmenjadceliheaaOpens
import Derived.Test.YtmenjadceliheaaRingInv
import Derived.Test.YtmenjadceliheaaRows
import Derived.ChangeSame
namespace Go.Proofs.Ytmenjadceliheaa.RingPlays
open Go.RowKit Go.ChangeShapes Go.WideShapes Go.Proofs.YtmenjadceliheaaW.PrintWords
def k28 : Kd (Bool × Int) := Kd.pair Kd.bool (Kd.int .i64)
theorem k28_mk (w : World) (x : Bool × Int) : k28.K w x [.bool x.1, .int .i64 x.2] := ⟨[.bool x.1], [.int .i64 x.2], rfl, rfl, rfl⟩
theorem k28_open {w : World} {x : Bool × Int} {cs : List Value} (h : k28.K w x cs) : cs = [.bool x.1, .int .i64 x.2] := by
  obtain ⟨c1, c2, rfl, h1, h2⟩ := h
  have h1' : c1 = [.bool x.1] := h1
  have h2' : c2 = [.int .i64 x.2] := h2
  rw [h1', h2']
  rfl
theorem cells4 : Try.prog.cellsOf 4 = 1 := by kernel_rfl
theorem cells3 : Try.prog.cellsOf 3 = 1 := by kernel_rfl
theorem elem {H : Type} {enc : TypeId × Value → H} {w : World} {base : Nat} {spare : Nat → Bool} {held : Bool} : Opens.Elem enc Try.prog w base spare held 28 k28 (fun y => (Lit.int .i64 y.2).wf = true) := by
  intro fuel cs x hlen h
  obtain ⟨y0, y1, n, _, _, h0, h1⟩ := trod_struct2 Try.underlying28 h
  have hl2 : cs.length = 2 := hlen
  obtain ⟨a, b, rfl⟩ : ∃ a b, cs = [a, b] := by
    match cs, hl2 with
    | [a, b], _ => exact ⟨a, b, rfl⟩
  dsimp only at h0 h1
  rw [cells4] at h0
  rw [cells3] at h1
  obtain ⟨g, hg, _⟩ := DataW.trod_bool Try.underlying4 h0
  obtain ⟨v, hv, _, hw⟩ := DataW.trod_int Try.underlying3 h1
  obtain rfl : a = .bool g := by simpa using hg
  obtain rfl : b = .int .i64 v := by simpa using hv
  exact ⟨⟨g, v⟩, k28_mk w ⟨g, v⟩, hw⟩
theorem read_act {w : World} {A : Option Addr} {l : List (Bool × Int)} (hr : Kd.C k28 w A l.length l) (i : Nat) (hi : i < l.length) :
    ∃ ad, A = some ad ∧ w.cell? (ad.add (i * 2)) = some (.bool l[i].1) ∧ w.cell? ⟨(ad.add (i * 2)).block, (ad.add (i * 2)).off + 1, none⟩ = some (.int .i64 l[i].2) := by
  obtain ⟨ad, e, hc⟩ := hr.2.2 (by omega)
  obtain ⟨c, hs, hK, hcell⟩ := hc i _ (List.getElem?_eq_getElem hi)
  have hK' := k28_open hK
  subst hK'
  refine ⟨ad, e, hcell 0 _ rfl, ?_⟩
  have h : w.cell? (ad.add (i * 2 + 1)) = some (.int .i64 l[i].2) := hcell 1 _ rfl
  rw [← add_field _ _ 1 (by omega)]
  exact h
end Go.Proofs.Ytmenjadceliheaa.RingPlays
