/- A region that draws its order, all of whose operations keep a condition on the world: it is walked once, in the order of the text, in a world of which that condition alone is known. -/
import Derived.Deep.QuietTactic
import Derived.BigQuiet
namespace Go.Proofs.Ytghhjmdolmadeaa.Klass
/-- The worlds that meet 'Good' are told as F x, x of a type of its own: so that facts on them need no premise. -/
theorem region {P : Program} {id : Nat} {Q : Exit → Act → World → Prop} {a : Act} {w : World} {l : List Oper} (Good : World → Prop) (hm : P.follows .mixedOrders = true) (hB : Region.lexB .any l.toArray = true) (hC : Good w.drew)
    (h : ∀ (T : Type) (_ : Nonempty T) (F : T → World), (∀ x, Good (F x)) → (∀ w', Good w' → ∃ x, w' = F x) → wpQuiet P l.toArray (fun w' => ∃ x, w' = F x) (fun a' => ∀ w', (∃ x, w' = F x) → Q .normal a' w') l a) : (Code.region id l.toArray true).wp P Q a w := by
  refine wp_region_quiet (C := fun w' => ∃ x : Subtype Good, w' = x.val) hm hB ⟨⟨_, hC⟩, rfl⟩ ?_
  have := h (Subtype Good) ⟨⟨_, hC⟩⟩ Subtype.val (fun x => x.2) (fun w' hw' => ⟨⟨w', hw'⟩, rfl⟩)
  simpa using this
end Go.Proofs.Ytghhjmdolmadeaa.Klass
