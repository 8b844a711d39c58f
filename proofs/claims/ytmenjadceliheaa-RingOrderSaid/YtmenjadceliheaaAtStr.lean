/- A ring, or two apart, in the midst of a walk that began at w: what each call makes of them (string). -/
import Derived.Test.YtmenjadceliheaaDrainStr
namespace Go.Proofs.Ytmenjadceliheaa.RingStr
open Go.RowKit Go.Proofs.Ytmenjadceliheaa.RingInv Go.Proofs.YtmenjadceliheaaW.PrintWords Go.Proofs.YtmenjadceliheaaW.PrintLast
section
variable {w W W' : World} {g : Nat} {room : Int} {xs : List ByteArray} {lost : Bool}
def At (w W : World) (g : Nat) (room : Int) (xs : List ByteArray) (lost : Bool) : Prop := ∃ F : Nat → Prop, Is W g room xs lost F ∧ (∀ k, F k → w.heap.size ≤ k) ∧ Below w.heap.size w W
theorem At.bel (hI : At w W g room xs lost) : Below w.heap.size w W := by obtain ⟨_, _, _, h⟩ := hI; exact h
theorem At.lt (hI : At w W g room xs lost) : g < W.heap.size := by obtain ⟨F, h, _⟩ := hI; exact h.2.1 g h.1
theorem At.below (hI : At w W g room xs lost) (hb : Below W.heap.size W W') : At w W' g room xs lost := by
  obtain ⟨F, h1, h2, h3⟩ := hI
  exact ⟨F, h1.below hb, h2, below_step h3 hb⟩
theorem At.drewN (hI : At w W g room xs lost) (m : Nat) : At w (W.drewN m) g room xs lost := hI.below (pw_below_drewN (Below.refl _ _) m)
theorem newA (hb : Below w.heap.size w W) (a : Int) : Calls Try.prog 18 #[.int .i64 a] W fun e w' => ∃ g, e = .returned (.pointer (some ⟨g, 0, none⟩)) ∧ At w w' g (if a ≤ 0 then 0 else a) [] false := by
  refine (new_any a W).mono ?_
  rintro e w' ⟨g, he, hI, hB⟩
  exact ⟨g, he, _, hI, fun k hk => Nat.le_trans hb.size hk.1, below_step hb hB⟩
theorem putA (hI : At w W g room xs lost) (hlen : xs.length ≤ 1000000) (x : ByteArray) : Calls Try.prog 19 #[.pointer (some ⟨g, 0, none⟩), .string x] W fun e w' => e = .returned (.bool (decide ((xs.length : Int) < room))) ∧
    At w w' g room (if (xs.length : Int) < room then xs ++ [x] else xs) (lost || !decide ((xs.length : Int) < room)) := by
  obtain ⟨F, h1, h2, h3⟩ := hI
  refine (put_any h1 hlen x).mono ?_
  rintro e w' ⟨he, F', hI', hF', hK⟩
  exact ⟨he, F', hI', fun k hk => (hF' k hk).elim (h2 k) (fun h => Nat.le_trans h3.size h), Keeps.below h3 h3.size hK h2⟩
theorem drainA (hI : At w W g room xs lost) (hlen : xs.length ≤ 1000000) : Calls Try.prog 20 #[.pointer (some ⟨g, 0, none⟩)] W fun e w' => ∃ v, e = .returned (.tuple #[v, .bool lost]) ∧ At w w' g room [] false ∧
    Kd.R Kd.string 9 w' W.heap.size (fun k => W.heap.size ≤ k ∧ k < w'.heap.size) v xs := by
  obtain ⟨F, h1, h2, h3⟩ := hI
  refine (drain_any h1 hlen).mono ?_
  rintro e w' ⟨v, he, hI', hK, hR⟩
  exact ⟨v, he, ⟨_, hI', fun k hk => by rw [hk]; exact h2 g h1.1, Keeps.below h3 h3.size hK (fun k hk => by rw [hk]; exact h2 g h1.1)⟩, hR⟩
end
end Go.Proofs.Ytmenjadceliheaa.RingStr
