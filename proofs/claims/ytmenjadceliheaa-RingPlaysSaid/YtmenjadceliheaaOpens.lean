/- A slice among a law's arguments, its elements of whatever kind, opened as a row of cells with one reading for each element. -/
import Derived.Deep.Slices
import Derived.DataReads
import Derived.Test.YtmenjadceliheaaWWords
namespace Go.Proofs.Ytmenjadceliheaa.Opens
open Go.ChangeShapes Go.WideShapes Go.Deep Go.Proofs.YtmenjadceliheaaW.PrintWords
section
variable {H : Type} {enc : TypeId × Value → H} {P : Program} {w : World} {base : Nat} {spare : Nat → Bool} {held : Bool}
/-- WHAT ONE ELEMENT's READING SAYS: its cells, as the kind d has them, and Q. -/
def Elem {α : Type} (enc : TypeId × Value → H) (P : Program) (w : World) (base : Nat) (spare : Nat → Bool) (held : Bool) (e : TypeId) (d : Kd α) (Q : α → Prop) : Prop :=
  ∀ (fuel : Nat) (cs : List Value) (x : DataW H × List MemPlace), cs.length = d.sz → DataW.trod enc P w base spare held fuel e cs = some x → ∃ y, d.K w y cs ∧ Q y
theorem row {α : Type} {t e : TypeId} {d : Kd α} {Q : α → Prop} (ht : P.underlying t = some (.slice e)) (hc : P.cellsOf e = d.sz) (hel : Elem enc P w base spare held e d Q)
    {fuel : Nat} {cs : List Value} {x : DataW H × List MemPlace} (h : DataW.trod enc P w base spare held fuel t cs = some x) :
    ∃ (A : Option Addr) (cap : Nat) (xs : List α), cs = [.slice A xs.length cap] ∧ xs.length ≤ cap ∧ d.C w A xs.length xs ∧ ∀ y ∈ xs, Q y := by
  rcases open_slice ht h with ⟨rfl, _⟩ | ⟨a, len, cap, m, n, D, Pl, rfl, hb, hl, hm, hmm, _, hx⟩
  · exact ⟨none, 0, [], rfl, Nat.le_refl _, ⟨rfl, by simp, fun hn => absurd hn (by simp)⟩, fun y hy => by simp at hy⟩
  · have hlm : len ≤ m := by rw [hmm]; split <;> omega
    have key : ∀ i, i < len → ∃ y, Q y ∧ ∃ c, c.length = d.sz ∧ d.K w y c ∧ ∀ j u, c[j]? = some u → w.cell? (a.add (i * d.sz + j)) = some u := by
      intro i hi
      obtain ⟨c, h1, h2⟩ := hx i (by omega)
      rw [hc] at h1
      obtain ⟨_, hlen, hcell⟩ := World.cells?_some h1
      obtain ⟨y, hK, hQ⟩ := hel n c _ hlen h2
      refine ⟨y, hQ, c, hlen, hK, fun j u hu => ?_⟩
      have hj : j < d.sz := by rw [← hlen]; exact (List.getElem?_eq_some_iff.1 hu).1
      have := hcell j hj
      rw [hu, Go.Deep.add_add] at this
      exact this
    have all : ∀ l : Nat, l ≤ len → ∃ xs : List α, xs.length = l ∧ (∀ y ∈ xs, Q y) ∧ ∀ i y, xs[i]? = some y → ∃ c, c.length = d.sz ∧ d.K w y c ∧ ∀ j u, c[j]? = some u → w.cell? (a.add (i * d.sz + j)) = some u := by
      intro l
      induction l with
      | zero => exact fun _ => ⟨[], rfl, fun y hy => by simp at hy, fun i y hy => by simp at hy⟩
      | succ l ih =>
        intro hl
        obtain ⟨xs, h1, h2, h3⟩ := ih (by omega)
        obtain ⟨y, hQ, hy⟩ := key l (by omega)
        refine ⟨xs ++ [y], by simp [h1], fun z hz => ?_, fun i z hz => ?_⟩
        · rcases List.mem_append.1 hz with hz | hz
          · exact h2 z hz
          · rw [List.mem_singleton.1 hz]; exact hQ
        · rw [List.getElem?_append] at hz
          split at hz
          · exact h3 i z hz
          · rename_i hi
            have : i = l := by
              have := (List.getElem?_eq_some_iff.1 hz).1
              simp at this
              omega
            subst this
            rw [h1] at hz
            simp at hz
            subst hz
            exact hy
    obtain ⟨xs, h1, h2, h3⟩ := all len (Nat.le_refl _)
    refine ⟨some a, cap, xs, by rw [h1], by omega, ⟨rfl, by unfold maxLen at hm; omega, fun _ => ⟨a, rfl, h3⟩⟩, h2⟩
theorem elem_int {e : TypeId} {k : IntKind} (he : P.underlying e = some (.int k)) : Elem enc P w base spare held e (Kd.int k) (fun n => (Lit.int k n).wf = true) := by
  intro fuel cs x _ h
  obtain ⟨n, rfl, _, hw⟩ := DataW.trod_int he h
  exact ⟨n, rfl, hw⟩
theorem elem_bool {e : TypeId} (he : P.underlying e = some .bool) : Elem enc P w base spare held e Kd.bool (fun _ => True) := by
  intro fuel cs x _ h
  obtain ⟨n, rfl, _⟩ := DataW.trod_bool he h
  exact ⟨n, rfl, trivial⟩
theorem elem_string {e : TypeId} (he : P.underlying e = some .string) : Elem enc P w base spare held e Kd.string (fun s => s.size ≤ maxLen) := by
  intro fuel cs x _ h
  obtain ⟨s, rfl, _, hw⟩ := DataW.trod_string he h
  exact ⟨s, rfl, hw⟩
end
end Go.Proofs.Ytmenjadceliheaa.Opens
