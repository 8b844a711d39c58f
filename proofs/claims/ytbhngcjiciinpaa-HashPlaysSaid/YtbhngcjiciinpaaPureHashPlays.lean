/- Any text's hash, its stripe, and whether it may be a name, are the document's: the law HashPlays answers true. For every string and every int; no other condition. -/
import Derived.Test.YtbhngcjiciinpaaPHashPlaysx1
import Derived.OpenShut
import Derived.Laws.BitsAllLaws
import Derived.Laws.Bits64
namespace Go.Proofs.Ytbhngcjiciinpaa.Pure
open Go.RowKit Go.Proofs.Ytbhngcjiciinpaa.PHashPlays Go.Proofs.YtbhngcjiciinpaaW.PrintWords Go.Proofs.YtbhngcjiciinpaaW.PrintLast

namespace HashPlays
theorem loop_len (s : ByteArray) (d : Nat) : ∀ (i : Nat) (r : List UInt8), s.size - i = d → (ByteArray.toList.loop s i r).length = r.length + d := by
  induction d with
  | zero => intro i r h; rw [ByteArray.toList.loop, if_neg (by omega)]; simp
  | succ d ih => intro i r h; rw [ByteArray.toList.loop, if_pos (by omega), ih _ _ (by omega)]; simp; omega
theorem toList_nil (s : ByteArray) : s.toList = ([] : List UInt8) ↔ s.size = 0 := by
  have h : s.toList.length = s.size := by
    rw [ByteArray.toList, loop_len s s.size 0 [] (by omega)]; simp
  constructor
  · intro e; rw [e] at h; exact h.symm
  · intro e; exact List.eq_nil_of_length_eq_zero (by omega)
theorem keep {a : Int} (h0 : 0 ≤ a) (h1 : a ≤ 1000) : wrap64 a = a := by unfold wrap64; omega
theorem awake : doormanlaw02_awake.f 5 = some true := by decide +kernel
theorem awakeEv : Ev (fun k => doormanlaw02_awake.f k) true := Ev.of (fun k => doormanlaw02_awake.mono k) awake
/-- One byte more. -/
theorem mix (x : Int) : IntKind.u64.wrap (x * 1099511628211) = IntKind.u64.wrap (IntKind.u64.wrap (x * 1099511627776) + IntKind.u64.wrap (x * 435)) := by
  simp only [IntKind.wrap_u64]
  omega

section
variable {s : ByteArray} (hs : s.size ≤ 400)
include hs
theorem both (d : Nat) : ∀ i h : Int, 0 ≤ i → (s.size : Int) - i ≤ d → ∃ r, Ev (fun k => hash_Of.l0 k s h (s.size : Int) i) r ∧ Ev (fun k => doormanref02_Of.l0 k s h i) r := by
  have last (i h : Int) (hi : ¬ i < (s.size : Int)) : ∃ r, Ev (fun k => hash_Of.l0 k s h (s.size : Int) i) r ∧ Ev (fun k => doormanref02_Of.l0 k s h i) r := by
    refine ⟨h, Ev.step (f := fun _ => some h) (fun k => ?_) (Ev.now _), Ev.step (f := fun _ => some h) (fun k => ?_) (Ev.now _)⟩
    · simp only [hash_Of.l0]; rw [if_neg hi]
    · simp only [doormanref02_Of.l0]; rw [if_neg hi]
  induction d with
  | zero => exact fun i h _ hd => last i h (by omega)
  | succ d ih =>
    intro i h h0 hd
    by_cases hlt : i < (s.size : Int)
    · obtain ⟨r, e1, e2⟩ := ih (i + 1) (IntKind.u64.wrap ((Go.bits .xor .u64 h (IntKind.u64.wrap (bt s i))) * 1099511628211)) (by omega) (by omega)
      refine ⟨r, Ev.step (fun k => ?_) e1, Ev.step (fun k => ?_) e2⟩
      · simp only [hash_Of.l0]; rw [if_pos hlt, if_pos h0, if_pos hlt, keep (a := i + 1) (by omega) (by omega)]
      · simp only [doormanref02_Of.l0]; rw [if_pos hlt, if_pos h0, keep (a := i + 1) (by omega) (by omega), mix]
    · exact last i h hlt
theorem hashes : ∃ r, Ev (fun k => hash_Of.f k s) r ∧ Ev (fun k => doormanref02_Of.f k s) r :=
  both hs s.size 0 14695981039346656037 (by omega) (by omega)
end
/-- A name is right if it has bytes, and at most 16. -/
theorem right_ (s : ByteArray) : hash_Right.f s = some (decide (0 < s.size ∧ s.size ≤ 16)) := by
  unfold hash_Right.f
  have e := toList_nil s
  by_cases h : s.size = 0
  · rw [if_pos (e.2 h), decide_eq_false (by omega)]
  · rw [if_neg (fun q => h (e.1 q))]
    congr 1
    rw [decide_eq_decide]
    omega
end HashPlays

theorem HashPlays : doormanlaw02_HashPlays.Pure := by
  intro s n _ wn
  obtain ⟨n0, n1⟩ := bounds_i64 wn
  refine Ev.rounds (g := fun k => doormanlaw02_HashPlays.f k s n) ?_
  refine Ev.bind (f := fun k t => if t = true then doormanlaw02_HashPlays.j0 k s n (decide ((s.size : Int) > 400)) else doormanlaw02_HashPlays.j0 k s n true) HashPlays.awakeEv ?_
  simp only [if_true]
  by_cases hs : s.size ≤ 400
  · rw [decide_eq_false (by omega)]
    obtain ⟨r, e1, e2⟩ := HashPlays.hashes hs
    have stripe : ∃ q, Ev (fun k => hash_Stripe.f k s n) q ∧ Ev (fun k => doormanref02_Stripe.f k s n) q := by
      by_cases h : n < 1
      · exact ⟨0, Ev.congr (f := fun _ => some 0) (fun k => by unfold hash_Stripe.f; rw [if_pos h]) (Ev.now _), Ev.congr (f := fun _ => some 0) (fun k => by unfold doormanref02_Stripe.f; rw [if_pos h]) (Ev.now _)⟩
      · have hw : IntKind.u64.wrap n = n := by rw [IntKind.wrap_u64]; omega
        refine ⟨wrap64 (Int.tmod r n), Ev.congr (f := fun k => (hash_Of.f k s).bind fun t => some (wrap64 (Int.tmod t n))) (fun k => ?_) (Ev.bind e1 (Ev.now _)), Ev.congr (f := fun k => (doormanref02_Of.f k s).bind fun t => some (wrap64 (Int.tmod t n))) (fun k => ?_) (Ev.bind e2 (Ev.now _))⟩
        · unfold hash_Stripe.f; rw [if_neg h, hw]; simp only [if_neg (show ¬ n = 0 by omega)]
        · unfold doormanref02_Stripe.f; rw [if_neg h, hw]; simp only [if_neg (show ¬ n = 0 by omega)]
    obtain ⟨q, e3, e4⟩ := stripe
    refine Ev.step (f := fun k => (hash_Of.f k s).bind fun t108 => (doormanref02_Of.f k s).bind fun t109 => if t108 = t109 then (hash_Stripe.f k s n).bind fun t110 => (doormanref02_Stripe.f k s n).bind fun t111 => if t110 = t111 then (hash_Right.f s).bind fun t112 => (if (s.size : Int) > 0 then some (t112 == decide ((s.size : Int) < 17)) else some (t112 == false)) else some false else some false) (fun k => ?_) ?_
    · simp only [doormanlaw02_HashPlays.j0]
      rw [if_neg (by decide)]
    · refine Ev.bind e1 (Ev.bind e2 ?_)
      simp only [if_true]
      refine Ev.bind e3 (Ev.bind e4 ?_)
      simp only [if_true]
      rw [HashPlays.right_]
      simp only [Option.bind_some]
      by_cases hz : (s.size : Int) > 0
      · simp only [if_pos hz]
        have e : decide (0 < s.size ∧ s.size ≤ 16) = decide ((s.size : Int) < 17) := by rw [decide_eq_decide]; omega
        rw [e, beq_self_eq_true]
        exact Ev.now _
      · simp only [if_neg hz]
        rw [decide_eq_false (by omega)]
        exact Ev.now _
  · rw [decide_eq_true (by omega)]
    refine Ev.step (f := fun k => (doormanlaw02_awake.f k).bind fun t => some t) (fun k => ?_) (Ev.bind HashPlays.awakeEv (Ev.now _))
    simp only [doormanlaw02_HashPlays.j0]
    rw [if_pos trivial]

end Go.Proofs.Ytbhngcjiciinpaa.Pure
