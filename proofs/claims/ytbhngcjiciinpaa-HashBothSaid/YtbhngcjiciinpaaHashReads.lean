/- Readings of rows: own rows and given ones, element by element. -/
import Derived.Test.YtbhngcjiciinpaaRefStripes
import Derived.BigQuiet
namespace Go.Proofs.Ytbhngcjiciinpaa.HashCommon
open Go.RowKit Go.Proofs.Ytbhngcjiciinpaa.PHashStripes Go.Proofs.YtbhngcjiciinpaaW.PrintWords Go.Proofs.YtbhngcjiciinpaaW.PrintLast
theorem R_C {α : Type} {d : Kd α} {e : Nat} {w : World} {base : Nat} {ok : Nat → Prop} {v : Value} {xs : List α} (h : d.R e w base ok v xs) : ∃ A c, v = .slice A xs.length c ∧ xs.length ≤ c ∧ d.C w A xs.length xs := by
  obtain ⟨A, c, e, hc, hr⟩ := (h.2.imp_ (R' := d.K w) (fun _ _ hp => d.K_of_M hp)).reads
  exact ⟨A, c, e, hc, hr⟩
theorem read_int {w : World} {A : Option Addr} {l : List Int} (hr : Kd.C (Kd.int .i64) w A l.length l) (i : Nat) (hi : i < l.length) : ∃ ad, A = some ad ∧ w.cell? (ad.add i) = some (.int .i64 l[i]) := by
  obtain ⟨ad, e, hc⟩ := hr.2.2 (by omega)
  obtain ⟨c, hs, hK, hcell⟩ := hc i _ (List.getElem?_eq_getElem hi)
  have hK' : c = [.int .i64 l[i]] := hK
  subst hK'
  refine ⟨ad, e, ?_⟩
  have := hcell 0 _ rfl
  simpa [Kd.int, Kd.scalar] using this
theorem below_trans {w w1 w2 : World} (h1 : Below w.heap.size w w1) (h2 : Below w1.heap.size w1 w2) : Below w.heap.size w w2 := below_step h1 h2
theorem C_drewN {α : Type} {d : Kd α} {w : World} {A : Option Addr} {n : Nat} {xs : List α} (h : d.C w A n xs) (m : Nat) : d.C (w.drewN m) A n xs := Kd.C_below h (pw_below_drewN (Below.refl w.heap.size w) m)
theorem C_drewN1 {α : Type} {d : Kd α} {w : World} {A : Option Addr} {n : Nat} {xs : List α} (h : d.C w A n xs) : d.C w.drew A n xs := C_drewN h 1
theorem stripes_len (l : List ByteArray) (n : Int) : (stripes l n).length ≤ 8 := upTo_len l n 8
end Go.Proofs.Ytbhngcjiciinpaa.HashCommon
