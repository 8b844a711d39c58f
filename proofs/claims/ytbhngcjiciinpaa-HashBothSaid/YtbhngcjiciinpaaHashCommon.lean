/- What the functions of package hash come to, as plain functions, and the contracts of Of, Stripe and long. -/
import Derived.Test.YtbhngcjiciinpaaPHashStripesx1
import Derived.OpenShut
import Derived.Laws.BitsAllLaws
import Derived.Laws.Bits64
namespace Go.Proofs.Ytbhngcjiciinpaa.HashCommon
open Go.RowKit Go.Proofs.Ytbhngcjiciinpaa.PHashStripes Go.Proofs.YtbhngcjiciinpaaW.PrintWords Go.Proofs.YtbhngcjiciinpaaW.PrintLast
theorem keep {a : Int} (h0 : 0 ≤ a) (h1 : a ≤ 9223372036854775807) : wrap64 a = a := by unfold wrap64; omega
theorem awake : doormanlaw02_awake.f 5 = some true := by decide +kernel
theorem awake_any (w : World) : Calls Try.prog 9 #[] w fun e w' => e = .returned (.bool true) ∧ ∃ n, w' = w.drewN n :=
  (doormanlaw02_awake.calls 5 true w awake).mono fun _ _ ⟨h, d⟩ => ⟨h, d.out⟩
/-- One byte more. -/
def mixb (h : Int) (b : UInt8) : Int := IntKind.u64.wrap (Go.bits .xor .u64 h (b.toNat : Int) * 1099511628211)
def hashL (h : Int) (l : List UInt8) : Int := l.foldl mixb h
def hashOf (s : ByteArray) : Int := hashL 14695981039346656037 s.data.toList
theorem mix_eq (x : Int) : IntKind.u64.wrap (x * 1099511628211) = IntKind.u64.wrap (IntKind.u64.wrap (x * 1099511627776) + IntKind.u64.wrap (x * 435)) := by
  simp only [IntKind.wrap_u64]
  omega
theorem mixb_bd (h : Int) (b : UInt8) : 0 ≤ mixb h b ∧ mixb h b ≤ 18446744073709551615 := by
  unfold mixb
  rw [IntKind.wrap_u64]
  omega
theorem hashL_bd (l : List UInt8) : ∀ h : Int, 0 ≤ h → h ≤ 18446744073709551615 → 0 ≤ hashL h l ∧ hashL h l ≤ 18446744073709551615 := by
  induction l with
  | nil => exact fun h h0 h1 => ⟨h0, h1⟩
  | cons b l ih => exact fun h _ _ => ih _ (mixb_bd h b).1 (mixb_bd h b).2
theorem hashOf_bd (s : ByteArray) : 0 ≤ hashOf s ∧ hashOf s ≤ 18446744073709551615 := hashL_bd _ _ (by omega) (by omega)
theorem bt_at (s : ByteArray) (i : Nat) (hi : i < s.size) : ∃ b : UInt8, s.data.toList[i]? = some b ∧ IntKind.u64.wrap (bt s (i : Int)) = (b.toNat : Int) := by
  refine ⟨s[i], by rw [Array.getElem?_toList]; exact Array.getElem?_eq_getElem hi, ?_⟩
  unfold bt
  rw [dif_pos (by simpa using hi)]
  simp only [Int.toNat_natCast]
  rw [IntKind.wrap_u64]
  have := UInt8.toNat_lt s[i]
  omega
theorem drop_at (s : ByteArray) (i : Nat) (hi : i < s.size) {b : UInt8} (hb : s.data.toList[i]? = some b) : s.data.toList.drop i = b :: s.data.toList.drop (i + 1) := by
  have hl : i < s.data.toList.length := by simpa using hi
  rw [List.drop_eq_getElem_cons hl]
  rw [List.getElem?_eq_getElem hl] at hb
  injection hb with hb
  rw [hb]
theorem both (s : ByteArray) (hs : s.size ≤ 9223372036854775806) (d : Nat) : ∀ (i : Nat) (h : Int), i ≤ s.size → s.size - i = d →
    Ev (fun k => hash_Of.l0 k s h (s.size : Int) (i : Int)) (hashL h (s.data.toList.drop i)) ∧ Ev (fun k => doormanref02_Of.l0 k s h (i : Int)) (hashL h (s.data.toList.drop i)) := by
  induction d with
  | zero =>
    intro i h hi hd
    have e : s.data.toList.drop i = [] := List.drop_eq_nil_of_le (by simp; omega)
    rw [e]
    refine ⟨Ev.step (f := fun _ => some h) (fun k => ?_) (Ev.now _), Ev.step (f := fun _ => some h) (fun k => ?_) (Ev.now _)⟩
    · simp only [hash_Of.l0]; rw [if_neg (by omega)]
    · simp only [doormanref02_Of.l0]; rw [if_neg (by omega)]
  | succ d ih =>
    intro i h hi hd
    have hlt : i < s.size := by omega
    obtain ⟨b, hb, hbt⟩ := bt_at s i hlt
    obtain ⟨e1, e2⟩ := ih (i + 1) (mixb h b) (by omega) (by omega)
    rw [drop_at s i hlt hb]
    refine ⟨Ev.step (fun k => ?_) e1, Ev.step (fun k => ?_) e2⟩
    · simp only [hash_Of.l0]
      rw [if_pos (by omega), if_pos (by omega), if_pos (by omega), keep (a := (i : Int) + 1) (by omega) (by omega), hbt]
      rfl
    · simp only [doormanref02_Of.l0]
      rw [if_pos (by omega), if_pos (by omega), keep (a := (i : Int) + 1) (by omega) (by omega), hbt, ← mix_eq]
      rfl
theorem of_ev (s : ByteArray) (hs : s.size ≤ 9223372036854775806) : Ev (fun k => hash_Of.f k s) (hashOf s) := (both s hs s.size 0 14695981039346656037 (by omega) (by omega)).1
theorem refOf_ev (s : ByteArray) (hs : s.size ≤ 9223372036854775806) : Ev (fun k => doormanref02_Of.f k s) (hashOf s) := (both s hs s.size 0 14695981039346656037 (by omega) (by omega)).2
theorem of_any (s : ByteArray) (w : World) (hs : s.size ≤ 9223372036854775806) : Calls Try.prog 10 #[.string s] w fun e w' => e = .returned (.int .u64 (hashOf s)) ∧ ∃ n, w' = w.drewN n := by
  obtain ⟨k, hk⟩ := (of_ev s hs).rounds
  exact (hash_Of.calls k s _ w hk).mono fun _ _ ⟨h, d⟩ => ⟨h, d.out⟩
/-- The stripe. -/
def st (s : ByteArray) (n : Int) : Int := if n < 1 then 0 else hashOf s % n
theorem st_bd (s : ByteArray) (n : Int) (h1 : n ≤ 9223372036854775807) : 0 ≤ st s n ∧ st s n ≤ 9223372036854775806 ∧ (1 ≤ n → st s n < n) := by
  unfold st
  by_cases h : n < 1
  · rw [if_pos h]; omega
  · rw [if_neg h]
    have a := Int.emod_nonneg (hashOf s) (show n ≠ 0 by omega)
    have b := Int.emod_lt_of_pos (hashOf s) (show 0 < n by omega)
    omega
theorem stripe_ev (s : ByteArray) (n : Int) (hs : s.size ≤ 9223372036854775806) (h1 : n ≤ 9223372036854775807) : Ev (fun k => hash_Stripe.f k s n) (st s n) := by
  unfold st
  by_cases h : n < 1
  · rw [if_pos h]
    exact Ev.congr (f := fun _ => some 0) (fun k => by unfold hash_Stripe.f; rw [if_pos h]) (Ev.now _)
  · rw [if_neg h]
    have hw : IntKind.u64.wrap n = n := by rw [IntKind.wrap_u64]; omega
    have a := Int.emod_nonneg (hashOf s) (show n ≠ 0 by omega)
    have b := Int.emod_lt_of_pos (hashOf s) (show 0 < n by omega)
    refine Ev.congr (f := fun k => (hash_Of.f k s).bind fun t => some (wrap64 (Int.tmod t n))) (fun k => ?_) (Ev.bind (of_ev s hs) ?_)
    · unfold hash_Stripe.f; rw [if_neg h, hw]; simp only [if_neg (show ¬ n = 0 by omega)]
    · rw [Int.tmod_eq_emod_of_nonneg (hashOf_bd s).1, keep a (by omega)]
      exact Ev.now _
theorem refStripe_ev (s : ByteArray) (n : Int) (hs : s.size ≤ 9223372036854775806) (h1 : n ≤ 9223372036854775807) : Ev (fun k => doormanref02_Stripe.f k s n) (st s n) := by
  unfold st
  by_cases h : n < 1
  · rw [if_pos h]
    exact Ev.congr (f := fun _ => some 0) (fun k => by unfold doormanref02_Stripe.f; rw [if_pos h]) (Ev.now _)
  · rw [if_neg h]
    have hw : IntKind.u64.wrap n = n := by rw [IntKind.wrap_u64]; omega
    have a := Int.emod_nonneg (hashOf s) (show n ≠ 0 by omega)
    have b := Int.emod_lt_of_pos (hashOf s) (show 0 < n by omega)
    refine Ev.congr (f := fun k => (doormanref02_Of.f k s).bind fun t => some (wrap64 (Int.tmod t n))) (fun k => ?_) (Ev.bind (refOf_ev s hs) ?_)
    · unfold doormanref02_Stripe.f; rw [if_neg h, hw]; simp only [if_neg (show ¬ n = 0 by omega)]
    · rw [Int.tmod_eq_emod_of_nonneg (hashOf_bd s).1, keep a (by omega)]
      exact Ev.now _
theorem stripe_any (s : ByteArray) (n : Int) (w : World) (hs : s.size ≤ 9223372036854775806) (h1 : n ≤ 9223372036854775807) : Calls Try.prog 12 #[.string s, .int .i64 n] w fun e w' => e = .returned (.int .i64 (st s n)) ∧ ∃ m, w' = w.drewN m := by
  obtain ⟨k, hk⟩ := (stripe_ev s n hs h1).rounds
  exact (hash_Stripe.calls k s n _ w hk).mono fun _ _ ⟨h, d⟩ => ⟨h, d.out⟩
/-- The stripes, below 8, rising. -/
def hasSt (l : List ByteArray) (n : Int) (s : Nat) : Bool := l.any fun u => decide (st u n = (s : Int))
def stripes (l : List ByteArray) (n : Int) : List Int := ((List.range 8).filter (hasSt l n)).map fun s : Nat => (s : Int)
/-- How many are looked at. -/
theorem long_ev (l : List ByteArray) (hl : l.length ≤ 9223372036854775000) : ∃ r, Ev (fun k => doormanlaw02_long.f k l) r ∧ (r = false → l.length ≤ 400 ∧ ∀ s ∈ l, s.size ≤ 400) := by
  have key (d : Nat) : ∀ (n : Int) (i : Nat), (l.length : Int) ≤ n → i ≤ l.length → l.length - i = d → n ≤ 9223372036854775000 → (∀ s ∈ l.take i, n ≤ 400 → s.size ≤ 400) →
      ∃ r, Ev (fun k => doormanlaw02_long.l0 k l n (i : Int)) r ∧ (r = false → l.length ≤ 400 ∧ ∀ s ∈ l, s.size ≤ 400) := by
    induction d with
    | zero =>
      intro n i hn hi hd hb hall
      refine ⟨decide (n > 400), Ev.step (f := fun _ => some (decide (n > 400))) (fun k => ?_) (Ev.now _), fun h => ?_⟩
      · simp only [doormanlaw02_long.l0]; rw [if_neg (by omega)]
      · have h2 := of_decide_eq_false h
        refine ⟨by omega, fun s hs => hall s ?_ (by omega)⟩
        rw [List.take_of_length_le (by omega)]
        exact hs
    | succ d ih =>
      intro n i hn hi hd hb hall
      by_cases h4 : n ≤ 400
      · have hlt : i < l.length := by omega
        have hm : mn ((rdOf ByteArray.empty l (i : Int)).size : Int) 401 ≤ 401 ∧ 0 ≤ mn ((rdOf ByteArray.empty l (i : Int)).size : Int) 401 ∧ (mn ((rdOf ByteArray.empty l (i : Int)).size : Int) 401 ≤ 400 → (rdOf ByteArray.empty l (i : Int)).size ≤ 400) := by
          unfold mn; split <;> omega
        obtain ⟨r, e1, e2⟩ := ih (n + mn ((rdOf ByteArray.empty l (i : Int)).size : Int) 401) (i + 1) (by omega) (by omega) (by omega) (by omega) (fun s hs h5 => by
          rw [List.take_succ_eq_append_getElem hlt] at hs
          rcases List.mem_append.1 hs with hs | hs
          · exact hall s hs h4
          · have : s = rdOf ByteArray.empty l (i : Int) := by
              rw [List.mem_singleton.1 hs]
              simp [rdOf, List.getD_eq_getElem?_getD, List.getElem?_eq_getElem hlt]
            rw [this]
            exact hm.2.2 (by omega))
        refine ⟨r, Ev.step (fun k => ?_) e1, e2⟩
        simp only [doormanlaw02_long.l0]
        rw [if_pos (by omega), if_pos h4, if_pos (by omega), keep (a := n + _) (by omega) (by omega), keep (a := (i : Int) + 1) (by omega) (by omega)]
        rfl
      · refine ⟨true, Ev.step (f := fun _ => some (decide (n > 400))) (fun k => ?_) (by rw [decide_eq_true (by omega)]; exact Ev.now _), fun h => by cases h⟩
        simp only [doormanlaw02_long.l0]
        rw [if_pos (by omega), if_neg h4]
  exact key l.length l.length 0 (by omega) (by omega) (by omega) (by omega) (fun s hs => by simp at hs)
theorem long_any (l : List ByteArray) (A : Option Addr) (c : Nat) (w : World) (hl : l.length ≤ 9223372036854775000) (hr : Kd.C Kd.string w A l.length l) (hc : l.length ≤ c) :
    ∃ r : Bool, (Calls Try.prog 15 #[.slice A l.length c] w fun e w' => e = .returned (.bool r) ∧ Below w.heap.size w w') ∧ (r = false → l.length ≤ 400 ∧ ∀ s ∈ l, s.size ≤ 400) := by
  obtain ⟨r, e1, e2⟩ := long_ev l hl
  obtain ⟨k, hk⟩ := e1.rounds
  exact ⟨r, doormanlaw02_long.calls k A c l r w hr hc hk, e2⟩
end Go.Proofs.Ytbhngcjiciinpaa.HashCommon
