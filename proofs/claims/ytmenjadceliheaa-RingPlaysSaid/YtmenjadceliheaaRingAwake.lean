/- The document's example, walked: awake answers true. -/
import Derived.Test.YtmenjadceliheaaAtInt
namespace Go.Proofs.Ytmenjadceliheaa.RingInv
open Go.RowKit Go.Proofs.YtmenjadceliheaaW.PrintWords Go.Proofs.YtmenjadceliheaaW.PrintLast Go.Proofs.Ytmenjadceliheaa.RingInt
theorem read_int {w : World} {A : Option Addr} {l : List Int} (hr : Kd.C (Kd.int .i64) w A l.length l) (i : Nat) (hi : i < l.length) : ∃ ad, A = some ad ∧ w.cell? (ad.add i) = some (.int .i64 l[i]) := by
  obtain ⟨ad, e, hc⟩ := hr.2.2 (by omega)
  obtain ⟨c, hs, hK, hcell⟩ := hc i _ (List.getElem?_eq_getElem hi)
  have hK' : c = [.int .i64 l[i]] := hK
  subst hK'
  refine ⟨ad, e, ?_⟩
  have := hcell 0 _ rfl
  simpa [Kd.int, Kd.scalar] using this
theorem read_str {w : World} {A : Option Addr} {l : List ByteArray} (hr : Kd.C Kd.string w A l.length l) (i : Nat) (hi : i < l.length) : ∃ ad, A = some ad ∧ w.cell? (ad.add i) = some (.string l[i]) := by
  obtain ⟨ad, e, hc⟩ := hr.2.2 (by omega)
  obtain ⟨c, hs, hK, hcell⟩ := hc i _ (List.getElem?_eq_getElem hi)
  have hK' : c = [.string l[i]] := hK
  subst hK'
  refine ⟨ad, e, ?_⟩
  have := hcell 0 _ rfl
  simpa [Kd.string, Kd.scalar] using this
theorem cell_zero {w : World} {ad : Addr} {v : Value} (h : w.cell? (ad.add 0) = some v) : w.cell? ad = some v := (congrArg w.cell? (show ad.add 0 = ad by cases ad; simp [Addr.add])).symm.trans h
theorem C_drewN {α : Type} {d : Kd α} {w : World} {A : Option Addr} {n : Nat} {xs : List α} (h : d.C w A n xs) (m : Nat) : d.C (w.drewN m) A n xs := Kd.C_below h (pw_below_drewN (Below.refl w.heap.size w) m)
set_option maxHeartbeats 4000000 in
theorem awake_any (w : World) : Calls Try.prog 8 #[] w fun e w' => e = .returned (.bool true) ∧ Below w.heap.size w w' := by
  go_enter Try.func8, Try.ntmps8
  go_wp2_with fail
  refine (newA (Below.refl _ _) 1).mono ?_; rintro e w1 ⟨g, rfl, hI⟩
  rw [if_neg (by decide)] at hI
  have HI := Aside0.mk hI
  clear hI
  go_wp2_with fail
  refine (putA HI.out (by decide) 5).mono ?_; rintro e w2 ⟨rfl, hI⟩
  replace HI := Aside0.mk (show At w w2 g 1 [5] false from hI)
  clear hI
  go_wp2_with fail
  refine (putA HI.out (by decide) 6).mono ?_; rintro e w3 ⟨rfl, hI⟩
  replace HI := Aside0.mk (show At w w3 g 1 [5] true from hI)
  clear hI
  go_wp2_with fail
  refine (lostA HI.out).mono ?_; rintro e w4 ⟨rfl, rfl⟩
  go_wp2_with fail
  refine (drainA HI.out (by decide)).mono ?_; rintro e w5 ⟨v, rfl, hI, hR⟩
  replace HI := Aside0.mk hI
  obtain ⟨A, c, rfl, _, hC⟩ := R_C hR
  obtain ⟨ad, rfl, hcell⟩ := read_int hC 0 (by decide)
  have hc0 := cell_zero hcell
  simp only [List.getElem_cons_zero] at hc0
  clear hR hC hI hcell
  go_wp2_with fail
  refine (lenA HI.out).mono ?_; rintro e w6 ⟨rfl, rfl⟩
  go_wp2_with fail
  go_ret
  exact ⟨rfl, HI.out.bel⟩
end Go.Proofs.Ytmenjadceliheaa.RingInv
