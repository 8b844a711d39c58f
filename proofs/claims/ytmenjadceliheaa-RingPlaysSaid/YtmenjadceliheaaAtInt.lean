/- A ring, or two apart, in the midst of a walk that began at w: what each call makes of them (int). -/
import Derived.Test.YtmenjadceliheaaDrainInt
namespace Go.Proofs.Ytmenjadceliheaa.RingInt
open Go.RowKit Go.Proofs.Ytmenjadceliheaa.RingInv Go.Proofs.YtmenjadceliheaaW.PrintWords Go.Proofs.YtmenjadceliheaaW.PrintLast
section
variable {w W W' : World} {g h : Nat} {room room2 : Int} {xs ys : List Int} {lost lost2 : Bool}
def At (w W : World) (g : Nat) (room : Int) (xs : List Int) (lost : Bool) : Prop := ∃ F : Nat → Prop, Is W g room xs lost F ∧ (∀ k, F k → w.heap.size ≤ k) ∧ Below w.heap.size w W
theorem At.bel (hI : At w W g room xs lost) : Below w.heap.size w W := by obtain ⟨_, _, _, h⟩ := hI; exact h
theorem At.lt (hI : At w W g room xs lost) : g < W.heap.size := by obtain ⟨F, h, _⟩ := hI; exact h.2.1 g h.1
theorem At.below (hI : At w W g room xs lost) (hb : Below W.heap.size W W') : At w W' g room xs lost := by
  obtain ⟨F, h1, h2, h3⟩ := hI
  exact ⟨F, h1.below hb, h2, below_step h3 hb⟩
theorem At.drewN (hI : At w W g room xs lost) (m : Nat) : At w (W.drewN m) g room xs lost := hI.below (pw_below_drewN (Below.refl _ _) m)
theorem newA (hb : Below w.heap.size w W) (a : Int) : Calls Try.prog 9 #[.int .i64 a] W fun e w' => ∃ g, e = .returned (.pointer (some ⟨g, 0, none⟩)) ∧ At w w' g (if a ≤ 0 then 0 else a) [] false := by
  refine (new_any a W).mono ?_
  rintro e w' ⟨g, he, hI, hB⟩
  exact ⟨g, he, _, hI, fun k hk => Nat.le_trans hb.size hk.1, below_step hb hB⟩
theorem putA (hI : At w W g room xs lost) (hlen : xs.length ≤ 1000000) (x : Int) : Calls Try.prog 13 #[.pointer (some ⟨g, 0, none⟩), .int .i64 x] W fun e w' => e = .returned (.bool (decide ((xs.length : Int) < room))) ∧
    At w w' g room (if (xs.length : Int) < room then xs ++ [x] else xs) (lost || !decide ((xs.length : Int) < room)) := by
  obtain ⟨F, h1, h2, h3⟩ := hI
  refine (put_any h1 hlen x).mono ?_
  rintro e w' ⟨he, F', hI', hF', hK⟩
  exact ⟨he, F', hI', fun k hk => (hF' k hk).elim (h2 k) (fun h => Nat.le_trans h3.size h), Keeps.below h3 h3.size hK h2⟩
theorem drainA (hI : At w W g room xs lost) (hlen : xs.length ≤ 1000000) : Calls Try.prog 10 #[.pointer (some ⟨g, 0, none⟩)] W fun e w' => ∃ v, e = .returned (.tuple #[v, .bool lost]) ∧ At w w' g room [] false ∧
    Kd.R (Kd.int .i64) 3 w' W.heap.size (fun k => W.heap.size ≤ k ∧ k < w'.heap.size) v xs := by
  obtain ⟨F, h1, h2, h3⟩ := hI
  refine (drain_any h1 hlen).mono ?_
  rintro e w' ⟨v, he, hI', hK, hR⟩
  exact ⟨v, he, ⟨_, hI', fun k hk => by rw [hk]; exact h2 g h1.1, Keeps.below h3 h3.size hK (fun k hk => by rw [hk]; exact h2 g h1.1)⟩, hR⟩
theorem lenA (hI : At w W g room xs lost) : Calls Try.prog 16 #[.pointer (some ⟨g, 0, none⟩)] W fun e w' => e = .returned (.int .i64 xs.length) ∧ w' = W := by
  obtain ⟨F, h1, _⟩ := hI
  exact len_any h1
theorem lostA (hI : At w W g room xs lost) : Calls Try.prog 17 #[.pointer (some ⟨g, 0, none⟩)] W fun e w' => e = .returned (.bool lost) ∧ w' = W := by
  obtain ⟨F, h1, _⟩ := hI
  exact lost_any h1
/-- Two rings, apart. -/
def At2 (w W : World) (g : Nat) (room : Int) (xs : List Int) (lost : Bool) (h : Nat) (room2 : Int) (ys : List Int) (lost2 : Bool) : Prop :=
  ∃ F G : Nat → Prop, Is W g room xs lost F ∧ Is W h room2 ys lost2 G ∧ (∀ k, F k → ¬ G k) ∧ (∀ k, F k → w.heap.size ≤ k) ∧ (∀ k, G k → w.heap.size ≤ k) ∧ Below w.heap.size w W
theorem At2.swap (hI : At2 w W g room xs lost h room2 ys lost2) : At2 w W h room2 ys lost2 g room xs lost := by
  obtain ⟨F, G, h1, h2, h3, h4, h5, h6⟩ := hI
  exact ⟨G, F, h2, h1, fun k hk hf => h3 k hf hk, h5, h4, h6⟩
theorem At2.one (hI : At2 w W g room xs lost h room2 ys lost2) : At w W g room xs lost := by
  obtain ⟨F, G, h1, h2, h3, h4, h5, h6⟩ := hI
  exact ⟨F, h1, h4, h6⟩
theorem At2.bel (hI : At2 w W g room xs lost h room2 ys lost2) : Below w.heap.size w W := hI.one.bel
theorem At2.ne (hI : At2 w W g room xs lost h room2 ys lost2) : g ≠ h := by
  obtain ⟨F, G, h1, h2, h3, h4, h5, h6⟩ := hI
  intro e
  subst e
  exact h3 g h1.1 h2.1
theorem At2.below (hI : At2 w W g room xs lost h room2 ys lost2) (hb : Below W.heap.size W W') : At2 w W' g room xs lost h room2 ys lost2 := by
  obtain ⟨F, G, h1, h2, h3, h4, h5, h6⟩ := hI
  exact ⟨F, G, h1.below hb, h2.below hb, h3, h4, h5, below_step h6 hb⟩
theorem At2.drewN (hI : At2 w W g room xs lost h room2 ys lost2) (m : Nat) : At2 w (W.drewN m) g room xs lost h room2 ys lost2 := hI.below (pw_below_drewN (Below.refl _ _) m)
theorem new2 (hI : At w W g room xs lost) (a : Int) : Calls Try.prog 9 #[.int .i64 a] W fun e w' => ∃ h, e = .returned (.pointer (some ⟨h, 0, none⟩)) ∧ At2 w w' g room xs lost h (if a ≤ 0 then 0 else a) [] false := by
  obtain ⟨F, h1, h2, h3⟩ := hI
  refine (new_any a W).mono ?_
  rintro e w' ⟨g, he, hI, hB⟩
  exact ⟨g, he, F, _, h1.below hB, hI, fun k hf hk => by have := h1.2.1 k hf; omega, h2, fun k hk => Nat.le_trans h3.size hk.1, below_step h3 hB⟩
theorem put2 (hI : At2 w W g room xs lost h room2 ys lost2) (hlen : xs.length ≤ 1000000) (x : Int) : Calls Try.prog 13 #[.pointer (some ⟨g, 0, none⟩), .int .i64 x] W fun e w' => e = .returned (.bool (decide ((xs.length : Int) < room))) ∧
    At2 w w' g room (if (xs.length : Int) < room then xs ++ [x] else xs) (lost || !decide ((xs.length : Int) < room)) h room2 ys lost2 := by
  obtain ⟨F, G, h1, h2, h3, h4, h5, h6⟩ := hI
  refine (put_any h1 hlen x).mono ?_
  rintro e w' ⟨he, F', hI', hF', hK⟩
  exact ⟨he, F', G, hI', h2.keeps hK (fun k hg hf => h3 k hf hg), fun k hf hg => (hF' k hf).elim (fun h => h3 k h hg) (fun h => by have := h2.2.1 k hg; omega), fun k hk => (hF' k hk).elim (h4 k) (fun h => Nat.le_trans h6.size h), h5, Keeps.below h6 h6.size hK h4⟩
theorem drain2 (hI : At2 w W g room xs lost h room2 ys lost2) (hlen : xs.length ≤ 1000000) : Calls Try.prog 10 #[.pointer (some ⟨g, 0, none⟩)] W fun e w' => ∃ v, e = .returned (.tuple #[v, .bool lost]) ∧ At2 w w' g room [] false h room2 ys lost2 ∧
    Kd.R (Kd.int .i64) 3 w' W.heap.size (fun k => W.heap.size ≤ k ∧ k < w'.heap.size) v xs ∧ Keeps W w' (fun k => k = g) ∧ g < W.heap.size := by
  obtain ⟨F, G, h1, h2, h3, h4, h5, h6⟩ := hI
  refine (drain_any h1 hlen).mono ?_
  rintro e w' ⟨v, he, hI', hK, hR⟩
  exact ⟨v, he, ⟨_, G, hI', h2.keeps hK (fun k hg hk => by subst hk; exact h3 k h1.1 hg), fun k hk hg => by subst hk; exact h3 k h1.1 hg, fun k hk => by rw [hk]; exact h4 g h1.1, h5, Keeps.below h6 h6.size hK (fun k hk => by rw [hk]; exact h4 g h1.1)⟩, hR, hK, h1.2.1 g h1.1⟩
end
end Go.Proofs.Ytmenjadceliheaa.RingInt
