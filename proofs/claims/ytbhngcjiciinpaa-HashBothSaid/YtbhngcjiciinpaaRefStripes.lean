/- The document's Stripes: the same row. -/
import Derived.Test.YtbhngcjiciinpaaWalkStripes
namespace Go.Proofs.Ytbhngcjiciinpaa.HashCommon
open Go.RowKit Go.Proofs.Ytbhngcjiciinpaa.PHashStripes Go.Proofs.YtbhngcjiciinpaaW.PrintWords Go.Proofs.YtbhngcjiciinpaaW.PrintLast
theorem ref_l1 (l : List ByteArray) (n : Int) (x5 r : List Int) (s : Nat) (hl : (l.length : Int) ≤ 1000000) (hsz : ∀ s ∈ l, s.size ≤ 1000000) (hn : n ≤ 9223372036854775807) (hs : s < 8) (hx : x5.length < 100)
    (d : Nat) : ∀ (met : Bool) (j : Nat), j ≤ l.length → l.length - j = d →
      ((met || (l.drop j).any fun u => decide (st u n = (s : Int))) = true → Ev (fun k => doormanref02_Stripes.l0 k l n (x5 ++ [(s : Int)]) ((s + 1 : Nat) : Int)) r) →
      ((met || (l.drop j).any fun u => decide (st u n = (s : Int))) = false → Ev (fun k => doormanref02_Stripes.l0 k l n x5 ((s + 1 : Nat) : Int)) r) →
      Ev (fun k => doormanref02_Stripes.l1 k l n x5 (s : Int) met (j : Int)) r := by
  induction d with
  | zero =>
    intro met j hj hd h1 h2
    obtain rfl : j = l.length := by omega
    rw [List.drop_length] at h1 h2
    simp only [List.any_nil, Bool.or_false] at h1 h2
    cases met with
    | true =>
      refine Ev.step (fun k => ?_) (h1 rfl)
      simp only [doormanref02_Stripes.l1]
      rw [if_neg (by omega), if_pos trivial, if_pos (by omega), keep (a := (s : Int) + 1) (by omega) (by omega)]
      rfl
    | false =>
      refine Ev.step (fun k => ?_) (h2 rfl)
      simp only [doormanref02_Stripes.l1]
      rw [if_neg (by omega), if_neg (by first | decide | simp), keep (a := (s : Int) + 1) (by omega) (by omega)]
      rfl
  | succ d ih =>
    intro met j hj hd h1 h2
    have hlt : j < l.length := by omega
    rw [List.drop_eq_getElem_cons hlt, List.any_cons] at h1 h2
    cases met with
    | true =>
      refine Ev.step (fun k => ?_) (ih true (j + 1) (by omega) (by omega) (fun _ => h1 rfl) (fun h => by simp at h))
      simp only [doormanref02_Stripes.l1]
      rw [if_pos (by omega), if_pos trivial, keep (a := (j : Int) + 1) (by omega) (by omega)]
      rfl
    | false =>
      have hsz' := hsz _ (List.getElem_mem hlt)
      have e : rdOf ByteArray.empty l (j : Int) = l[j] := by simp [rdOf, List.getD_eq_getElem?_getD, List.getElem?_eq_getElem hlt]
      refine Ev.step (f := fun k => (doormanref02_Stripe.f k l[j] n).bind fun t => doormanref02_Stripes.l1 k l n x5 (s : Int) (t == (s : Int)) ((j + 1 : Nat) : Int)) (fun k => ?_) (Ev.bind (refStripe_ev l[j] n (by omega) hn) ?_)
      · simp only [doormanref02_Stripes.l1]
        rw [if_pos (by omega), if_neg (by first | decide | simp), if_pos (by omega), keep (a := (j : Int) + 1) (by omega) (by omega), e]
        rfl
      · refine ih _ (j + 1) (by omega) (by omega) (fun h => h1 ?_) (fun h => h2 ?_)
        · rw [Bool.false_or]; rw [← h]; rfl
        · rw [Bool.false_or]; rw [← h]; rfl
theorem ref_l0 (l : List ByteArray) (n : Int) (hl : (l.length : Int) ≤ 1000000) (hsz : ∀ s ∈ l, s.size ≤ 1000000) (hn : n ≤ 9223372036854775807) (d : Nat) : ∀ s : Nat, s ≤ 8 → 8 - s = d →
    Ev (fun k => doormanref02_Stripes.l0 k l n (upTo l n s) (s : Int)) (stripes l n) := by
  induction d with
  | zero =>
    intro s hs hd
    obtain rfl : s = 8 := by omega
    refine Ev.step (f := fun _ => some (upTo l n 8)) (fun k => ?_) (Ev.now _)
    simp only [doormanref02_Stripes.l0]
    rw [if_neg (by omega)]
  | succ d ih =>
    intro s hs hd
    have := ih (s + 1) (by omega) (by omega)
    have hlen := upTo_len l n s
    refine Ev.step (f := fun k => doormanref02_Stripes.l1 k l n (upTo l n s) (s : Int) false ((0 : Nat) : Int)) (fun k => ?_) (ref_l1 l n _ _ s hl hsz hn (by omega) (by omega) l.length false 0 (by omega) (by omega) (fun h => ?_) (fun h => ?_))
    · simp only [doormanref02_Stripes.l0]
      rw [if_pos (by omega)]
      rfl
    · rw [← upTo_hit l n s (by simpa [hasSt] using h)]; exact this
    · rw [← upTo_miss l n s (by simpa [hasSt] using h)]; exact this
theorem refStripes_any (l : List ByteArray) (A : Option Addr) (c : Nat) (n : Int) (w : World) (hl : (l.length : Int) ≤ 1000000) (hr : Kd.C Kd.string w A l.length l) (hc : l.length ≤ c) (hsz : ∀ s ∈ l, s.size ≤ 1000000) (hn : n ≤ 9223372036854775807) :
    Calls Try.prog 17 #[.slice A l.length c, .int .i64 n] w fun e w' => ∃ v, e = .returned v ∧ Kd.R (Kd.int .i64) 3 w' w.heap.size (fun _ => True) v (stripes l n) ∧ Below w.heap.size w w' := by
  obtain ⟨k, hk⟩ := (ref_l0 l n hl hsz hn 8 0 (by omega) (by omega)).rounds
  exact doormanref02_Stripes.calls k A c l n _ w hr hc hk
end Go.Proofs.Ytbhngcjiciinpaa.HashCommon
