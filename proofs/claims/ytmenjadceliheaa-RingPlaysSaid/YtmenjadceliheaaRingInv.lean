/- What a queue's block and its row say: the invariant of a ring, of whatever elements, and what keeps it. -/
import Derived.Test.YtmenjadceliheaaPRingPlaysx1
import Derived.OpenShut
import Derived.BigQuiet
import Derived.Laws.Rows
import Derived.Lib.Hide
import Derived.Outline
namespace Go.Proofs.Ytmenjadceliheaa.RingInv
open Go.RowKit Go.Proofs.YtmenjadceliheaaW.PrintWords Go.Proofs.YtmenjadceliheaaW.PrintLast
theorem keep {a : Int} (h0 : 0 ≤ a) (h1 : a ≤ 9223372036854775807) : wrap64 a = a := by unfold wrap64; omega
/-- The ring at g: its room, its row, whether something was lost; all its blocks are among F. -/
def IsR {α : Type} (d : Kd α) (e st : Nat) (W : World) (g : Nat) (room : Int) (xs : List α) (lost : Bool) (F : Nat → Prop) : Prop :=
  F g ∧ (∀ k, F k → k < W.heap.size) ∧ ∃ v, W.heap[g]? = some (.cells #[.int .i64 room, v, .bool lost] st (0, 0)) ∧ d.R e W 0 F v xs
section
variable {α : Type} {d : Kd α} {e st : Nat} {w W W' : World} {g B : Nat} {room : Int} {xs : List α} {lost : Bool} {F S : Nat → Prop}
theorem IsR.kept (h : IsR d e st W g room xs lost F) (hk : Kept W W' S) (hs : ∀ k, F k → ¬ S k) : IsR d e st W' g room xs lost F := by
  obtain ⟨h1, h2, v, h3, h4⟩ := h
  exact ⟨h1, fun k hf => Nat.lt_of_lt_of_le (h2 k hf) hk.1, v, blk_kept h3 hk (hs g h1), Kd.R_kept h4 hk hs⟩
theorem IsR.below (h : IsR d e st W g room xs lost F) (hb : Below W.heap.size W W') : IsR d e st W' g room xs lost F :=
  h.kept (S := fun _ => False) (Kept.of_below hb _) (fun _ _ => id)
theorem IsR.drewN (h : IsR d e st W g room xs lost F) (m : Nat) : IsR d e st (W.drewN m) g room xs lost F := h.below (pw_below_drewN (Below.refl _ _) m)
/-- A call that writes the blocks of S alone, and new ones. -/
def Keeps (w w' : World) (S : Nat → Prop) : Prop := Below 0 w w' ∧ Kept w w' S
theorem Keeps.of_below (h : Below W.heap.size W W') : Keeps W W' S := ⟨⟨h.os, h.tape, h.output, h.size, fun _ hk => by omega⟩, Kept.of_below h _⟩
theorem IsR.keeps (h : IsR d e st W g room xs lost F) (hk : Keeps W W' S) (hs : ∀ k, F k → ¬ S k) : IsR d e st W' g room xs lost F := h.kept hk.2 hs
theorem Keeps.below (hb : Below B w W) (hB : B ≤ W.heap.size) (hk : Keeps W W' S) (hs : ∀ k, S k → B ≤ k) : Below B w W' :=
  hb.trans ⟨hk.1.os, hk.1.tape, hk.1.output, hk.1.size, fun k hlt => hk.2.2 k (by omega) (fun h => by have := hs k h; omega)⟩
theorem Keeps.C {A : Option Addr} {n : Nat} {W0 : World} (h : d.C W0 A n xs) (hb : Below W0.heap.size W0 W) (hk : Keeps W W' S) (hs : ∀ k, S k → W0.heap.size ≤ k) : d.C W' A n xs := Kd.C_below h (Keeps.below hb hb.size hk hs)
theorem Keeps.R {base : Nat} {ok : Nat → Prop} {v : Value} (h : d.R e W base ok v xs) (hk : Keeps W W' S) (hs : ∀ k, ok k → ¬ S k) : d.R e W' base ok v xs := Kd.R_kept h hk.2 hs
theorem R_C {base : Nat} {ok : Nat → Prop} {v : Value} (h : d.R e w base ok v xs) : ∃ A c, v = .slice A xs.length c ∧ xs.length ≤ c ∧ d.C w A xs.length xs := by
  obtain ⟨A, c, e, hc, hr⟩ := (h.2.imp_ (R' := d.K w) (fun _ _ hp => d.K_of_M hp)).reads
  exact ⟨A, c, e, hc, hr⟩
end
end Go.Proofs.Ytmenjadceliheaa.RingInv
