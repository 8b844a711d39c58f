/- The walk of HashNames: the Go text returns true for every string and every uint8. -/
import Derived.Test.YtbhngcjiciinpaaPHashPlaysx1
import Derived.OpenShut
import Derived.Lib.Hide
import Derived.Outline
namespace Go.Proofs.Ytbhngcjiciinpaa.HashNames
open Go.RowKit Go.Proofs.Ytbhngcjiciinpaa.PHashPlays Go.Proofs.YtbhngcjiciinpaaW.PrintWords Go.Proofs.YtbhngcjiciinpaaW.PrintLast
theorem keep {a : Int} (h0 : 0 ≤ a) (h1 : a ≤ 1000) : wrap64 a = a := by unfold wrap64; omega
theorem awake : doormanlaw02_awake.f 5 = some true := by decide +kernel
theorem hash_ends {s : ByteArray} (hs : s.size ≤ 400) (d : Nat) : ∀ i h : Int, 0 ≤ i → (s.size : Int) - i ≤ d → ∃ r, Ev (fun k => hash_Of.l0 k s h (s.size : Int) i) r := by
  have last (i h : Int) (hi : ¬ i < (s.size : Int)) : ∃ r, Ev (fun k => hash_Of.l0 k s h (s.size : Int) i) r := by
    refine ⟨h, Ev.step (f := fun _ => some h) (fun k => ?_) (Ev.now _)⟩
    simp only [hash_Of.l0]; rw [if_neg hi]
  induction d with
  | zero => exact fun i h _ hd => last i h (by omega)
  | succ d ih =>
    intro i h h0 hd
    by_cases hlt : i < (s.size : Int)
    · obtain ⟨r, e1⟩ := ih (i + 1) (IntKind.u64.wrap ((Go.bits .xor .u64 h (IntKind.u64.wrap (bt s i))) * 1099511628211)) (by omega) (by omega)
      refine ⟨r, Ev.step (fun k => ?_) e1⟩
      simp only [hash_Of.l0]; rw [if_pos hlt, if_pos h0, if_pos hlt, keep (a := i + 1) (by omega) (by omega)]
    · exact last i h hlt
theorem stripe1 {s : ByteArray} (hs : s.size ≤ 400) : ∃ k, hash_Stripe.f k s 1 = some 0 := by
  obtain ⟨r, e⟩ := hash_ends hs s.size 0 14695981039346656037 (by omega) (by omega)
  obtain ⟨k, e'⟩ := e.rounds
  have e' : hash_Of.f k s = some r := e'
  have hw : IntKind.u64.wrap 1 = 1 := by decide
  refine ⟨k, ?_⟩
  unfold hash_Stripe.f; rw [if_neg (by decide), e', hw]; simp only [Option.bind_some, if_neg (show ¬ (1 : Int) = 0 by decide)]
  rw [Int.tmod_one, keep (by omega) (by omega)]
theorem loop_len (s : ByteArray) (d : Nat) : ∀ (i : Nat) (r : List UInt8), s.size - i = d → (ByteArray.toList.loop s i r).length = r.length + d := by
  induction d with
  | zero => intro i r h; rw [ByteArray.toList.loop, if_neg (by omega)]; simp
  | succ d ih => intro i r h; rw [ByteArray.toList.loop, if_pos (by omega), ih _ _ (by omega)]; simp; omega
theorem toList_nil (s : ByteArray) : s.toList = ([] : List UInt8) ↔ s.size = 0 := by
  have h : s.toList.length = s.size := by
    rw [ByteArray.toList, loop_len s s.size 0 [] (by omega)]; simp
  constructor
  · intro e; rw [e] at h; exact h.symm
  · intro e; exact List.eq_nil_of_length_eq_zero (by omega)
theorem right_ (s : ByteArray) : hash_Right.f s = some (decide (0 < s.size ∧ s.size ≤ 16)) := by
  unfold hash_Right.f
  have e := toList_nil s
  by_cases h : s.size = 0
  · rw [if_pos (e.2 h), decide_eq_false (by omega)]
  · rw [if_neg (fun q => h (e.1 q))]
    congr 1
    rw [decide_eq_decide]
    omega

theorem awake_any (w : World) : Calls Try.prog 9 #[] w fun e w' => e = .returned (.bool true) ∧ ∃ n, w' = w.drewN n :=
  (doormanlaw02_awake.calls 5 true w awake).mono fun _ _ ⟨h, d⟩ => ⟨h, d.out⟩
theorem right_yes (s : ByteArray) (w : World) (h : 0 < s.size) (h' : s.size ≤ 16) : Calls Try.prog 14 #[.string s] w fun e w' => e = .returned (.bool true) ∧ ∃ n, w' = w.drewN n :=
  (hash_Right.calls s true w (by rw [right_, decide_eq_true ⟨h, h'⟩])).mono fun _ _ ⟨h, d⟩ => ⟨h, d.out⟩
theorem right_no (s : ByteArray) (w : World) (h : s.size = 0 ∨ 16 < s.size) : Calls Try.prog 14 #[.string s] w fun e w' => e = .returned (.bool false) ∧ ∃ n, w' = w.drewN n :=
  (hash_Right.calls s false w (by rw [right_, decide_eq_false (by omega)])).mono fun _ _ ⟨h, d⟩ => ⟨h, d.out⟩
theorem stripe_any (s : ByteArray) (w : World) (h : s.size ≤ 400) : Calls Try.prog 12 #[.string s, .int .i64 1] w fun e w' => e = .returned (.int .i64 0) ∧ ∃ n, w' = w.drewN n := by
  obtain ⟨k, e⟩ := stripe1 h
  exact (hash_Stripe.calls k s 1 0 w e).mono fun _ _ ⟨h, d⟩ => ⟨h, d.out⟩

set_option maxHeartbeats 1000000 in
theorem calls_long (s : ByteArray) (c : Int) (w : World) (h : (400 : Int) < s.size) (_hs : s.size ≤ 140737488351232) : Calls Try.prog 4 #[.string s, .int .u8 c] w fun e w' => e = .returned (.bool true) ∧ ∃ n, w' = w.drewN n := by
  go_enter Try.func4, Try.ntmps4
  go_wp2_with fail
  refine (awake_any _).mono ?_; rintro e w' ⟨rfl, n, rfl⟩
  go_wp2_with fail
  refine (awake_any _).mono ?_; rintro e w' ⟨rfl, m, rfl⟩
  go_wp2_with fail
  go_ret
  exact ⟨rfl, _, rfl⟩
set_option maxHeartbeats 1000000 in
theorem calls_nil (s : ByteArray) (c : Int) (w : World) (h : s.size = 0) : Calls Try.prog 4 #[.string s, .int .u8 c] w fun e w' => e = .returned (.bool true) ∧ ∃ n, w' = w.drewN n := by
  have H := Lib.hid h
  have hs : (s.size : Int) ≤ 400 := by omega
  have hs2 : (s.size : Int) ≤ 0 := by omega
  clear h
  go_enter Try.func4, Try.ntmps4
  go_wp2_with fail
  refine (awake_any _).mono ?_; rintro e w' ⟨rfl, n, rfl⟩
  go_wp2_with fail
  refine (right_no _ _ (Or.inl rfl)).mono ?_; rintro e w' ⟨rfl, m, rfl⟩
  go_wp2_with fail
  refine (right_no _ _ (Or.inl H.out)).mono ?_; rintro e w' ⟨rfl, m2, rfl⟩
  go_wp2_with fail
  refine (stripe_any _ _ (by omega)).mono ?_; rintro e w' ⟨rfl, m3, rfl⟩
  go_wp2_with fail
  go_ret
  exact ⟨rfl, _, rfl⟩
set_option maxHeartbeats 1000000 in
theorem calls_wide (s : ByteArray) (c : Int) (w : World) (h : (16 : Int) < s.size) (hs : (s.size : Int) ≤ 400) (c0 : 0 ≤ c) (c1 : c ≤ 255) : Calls Try.prog 4 #[.string s, .int .u8 c] w fun e w' => e = .returned (.bool true) ∧ ∃ n, w' = w.drewN n := by
  go_enter Try.func4, Try.ntmps4
  go_wp2_with fail
  refine (awake_any _).mono ?_; rintro e w' ⟨rfl, n, rfl⟩
  go_wp2_with fail
  refine (right_no _ _ (Or.inl rfl)).mono ?_; rintro e w' ⟨rfl, m, rfl⟩
  go_wp2_with fail
  refine (right_no _ _ (Or.inr (by omega))).mono ?_; rintro e w' ⟨rfl, m2, rfl⟩
  go_wp2_with fail
  refine (stripe_any _ _ (by omega)).mono ?_; rintro e w' ⟨rfl, m3, rfl⟩
  go_wp2_with fail
  go_ret
  exact ⟨rfl, _, rfl⟩
set_option maxHeartbeats 1000000 in
theorem calls_name0 (s : ByteArray) (c : Int) (w : World) (h : (0 : Int) < s.size) (hs : (s.size : Int) ≤ 16) (c0 : 0 ≤ c) (c1 : c ≤ 255) (hn : c % (s.size : Int) = 0) : Calls Try.prog 4 #[.string s, .int .u8 c] w fun e w' => e = .returned (.bool true) ∧ ∃ n, w' = w.drewN n := by
  go_enter Try.func4, Try.ntmps4
  go_wp2_with fail
  refine (awake_any _).mono ?_; rintro e w' ⟨rfl, n, rfl⟩
  go_wp2_with fail
  refine (right_no _ _ (Or.inl rfl)).mono ?_; rintro e w' ⟨rfl, m, rfl⟩
  go_wp2_with fail
  refine (right_yes _ _ (by omega) (by omega)).mono ?_; rintro e w' ⟨rfl, m2, rfl⟩
  go_wp2_with fail
  refine (stripe_any _ _ (by omega)).mono ?_; rintro e w' ⟨rfl, m3, rfl⟩
  go_wp2_with fail
  go_ret
  exact ⟨rfl, _, rfl⟩
set_option maxHeartbeats 1000000 in
theorem calls_name (s : ByteArray) (c : Int) (w : World) (h : (0 : Int) < s.size) (hs : (s.size : Int) ≤ 16) (c0 : 0 ≤ c) (c1 : c ≤ 255) (hn : 0 < c % (s.size : Int)) (hn2 : c % (s.size : Int) < s.size) : Calls Try.prog 4 #[.string s, .int .u8 c] w fun e w' => e = .returned (.bool true) ∧ ∃ n, w' = w.drewN n := by
  go_enter Try.func4, Try.ntmps4
  go_wp2_with fail
  refine (awake_any _).mono ?_; rintro e w' ⟨rfl, n, rfl⟩
  go_wp2_with fail
  refine (right_no _ _ (Or.inl rfl)).mono ?_; rintro e w' ⟨rfl, m, rfl⟩
  go_wp2_with fail
  refine (right_yes _ _ (by omega) (by omega)).mono ?_; rintro e w' ⟨rfl, m2, rfl⟩
  go_wp2_with fail
  have hsz : (s.extract 0 (c % (s.size : Int)).toNat).size = (c % (s.size : Int)).toNat := by rw [ByteArray.size_extract]; omega
  have H := Lib.hid hsz
  clear hsz
  refine (right_yes _ _ (by rw [H.out]; omega) (by rw [H.out]; omega)).mono ?_; rintro e w' ⟨rfl, m3, rfl⟩
  go_wp2_with fail
  refine (stripe_any _ _ (by omega)).mono ?_; rintro e w' ⟨rfl, m4, rfl⟩
  go_wp2_with fail
  go_ret
  exact ⟨rfl, _, rfl⟩
theorem walk (s : ByteArray) (c : Int) (w : World) (hs : s.size ≤ 140737488351232) (wc : (Lit.int .u8 c).wf = true) : Calls Try.prog 4 #[.string s, .int .u8 c] w fun e w' => e = .returned (.bool true) ∧ Below w.heap.size w w' := by
  obtain ⟨c0, c1⟩ := bounds_u8 wc
  have key : Calls Try.prog 4 #[.string s, .int .u8 c] w fun e w' => e = .returned (.bool true) ∧ ∃ n, w' = w.drewN n := by
    by_cases h1 : (400 : Int) < s.size
    · exact calls_long s c w h1 hs
    · by_cases h2 : (16 : Int) < s.size
      · exact calls_wide s c w h2 (by omega) c0 c1
      · by_cases h3 : s.size = 0
        · exact calls_nil s c w h3
        · have hp : (0 : Int) < s.size := by omega
          by_cases h4 : c % (s.size : Int) = 0
          · exact calls_name0 s c w hp (by omega) c0 c1 h4
          · exact calls_name s c w hp (by omega) c0 c1 (by have := Int.emod_nonneg c (show (s.size : Int) ≠ 0 by omega); omega) (Int.emod_lt_of_pos _ hp)
  exact key.mono fun _ _ ⟨he, hw⟩ => ⟨he, (Drawn0.mk hw).below⟩
end Go.Proofs.Ytbhngcjiciinpaa.HashNames
