/- The walk of the law RingOrder. -/
import Derived.Test.YtmenjadceliheaaRingAwake
import Derived.Test.YtmenjadceliheaaAtStr
import Derived.Deep.QuietTactic
namespace Go.Proofs.Ytmenjadceliheaa.RingOrder
open Go.RowKit Go.Proofs.Ytmenjadceliheaa.RingInv Go.Proofs.YtmenjadceliheaaW.PrintWords Go.Proofs.YtmenjadceliheaaW.PrintLast
theorem take_len {α : Type} (l : List α) (i m : Nat) (hi : i ≤ l.length) : (l.take (min i m)).length = min i m := by rw [List.length_take]; omega
theorem put_step {α : Type} (l : List α) (i m : Nat) (hi : i < l.length) : (if ((l.take (min i m)).length : Int) < (m : Int) then l.take (min i m) ++ [l[i]] else l.take (min i m)) = l.take (min (i + 1) m) := by
  rw [take_len l i m (by omega)]
  by_cases h : i < m
  · rw [if_pos (by omega), show min i m = i by omega, show min (i + 1) m = i + 1 by omega, List.take_succ_eq_append_getElem hi]
  · rw [if_neg (by omega), show min i m = m by omega, show min (i + 1) m = m by omega]
theorem put_told {α : Type} (l : List α) (i m : Nat) (hi : i < l.length) : decide (((l.take (min i m)).length : Int) < (m : Int)) = decide ((i : Int) < (m : Int)) := by
  rw [take_len l i m (by omega), decide_eq_decide]
  omega
theorem put_lost {α : Type} (l : List α) (i m : Nat) (hi : i < l.length) : (decide (m < i) || !decide (((l.take (min i m)).length : Int) < (m : Int))) = decide (m < i + 1) := by
  rw [put_told l i m hi]
  by_cases h : i < m
  · rw [decide_eq_true (show (i : Int) < m by omega), decide_eq_false (show ¬ m < i by omega), decide_eq_false (show ¬ m < i + 1 by omega)]; rfl
  · rw [decide_eq_false (show ¬ (i : Int) < m by omega), decide_eq_true (show m < i + 1 by omega)]; simp
set_option maxHeartbeats 8000000 in
set_option maxRecDepth 100000 in
theorem walk (n : Int) (A : Option Addr) (c : Nat) (l : List ByteArray) (w : World) (wn : (Lit.int .u8 n).wf = true) (hr : Kd.C Kd.string w A l.length l) (_ : l.length ≤ c) (_ : ∀ s ∈ l, s.size ≤ maxLen) (hy : l.length * 16 ≤ 140737488351232) :
    Calls Try.prog 4 #[.int .u8 n, .slice A l.length c] w fun e w' => e = .returned (.bool true) ∧ Below w.heap.size w w' := by
  obtain ⟨n0, n1⟩ := bounds_u8 wn
  have hl : l.length ≤ 9223372036854775000 := by omega
  have HR0 := Lib.hid hr
  have HB := Aside0.mk (Below.refl w.heap.size w)
  clear hr hy wn
  go_enter Try.func4, Try.ntmps4
  go_wp2_with fail
  refine (awake_any _).mono ?_; rintro e w1 ⟨rfl, hb⟩
  replace HB := Aside0.mk hb
  clear hb
  by_cases h4 : (400 : Int) < l.length
  · go_wp2_with fail
    refine (awake_any _).mono ?_; rintro e w2 ⟨rfl, hb⟩
    replace HB := Aside0.mk (below_step HB.out hb)
    clear hb
    go_wp2_with fail
    go_ret
    exact ⟨rfl, HB.out⟩
  go_wp2_with fail
  obtain ⟨m, hm⟩ := Int.eq_ofNat_of_zero_le (show 0 ≤ n % 20 by omega)
  have hm20 : m < 20 := by omega
  rw [hm]
  have HM := Lib.hid hm
  clear hm
  refine (RingStr.newA HB.out (m : Int)).mono ?_; rintro e w2 ⟨g, rfl, hI⟩
  rw [show (if (m : Int) ≤ 0 then (0 : Int) else m) = m by split <;> omega] at hI
  have HI := Aside0.mk hI
  clear hI HB
  go_wp2_with fail
  go_loopg [7] (l.length) (fun gg v7 wr => ∃ i : Nat, v7 = .int .i64 i ∧ i ≤ l.length ∧ gg = l.length - i ∧ Aside0 (RingStr.At w wr g m (l.take (min i m)) (decide (m < i))))
  case atStart => exact ⟨0, rfl, by omega, by omega, ⟨by simpa using HI.out⟩⟩
  case round =>
    clear HI
    obtain ⟨i, rfl, hi, rfl, HI⟩ := hrel
    by_cases hlt : i < l.length
    · obtain ⟨ad, rfl, hcell⟩ := read_str (Kd.C_below HR0.out HI.out.bel) i hlt
      go_wp2_with fail
      refine (RingStr.putA HI.out (by rw [take_len l i m hi]; omega) _).mono ?_; rintro e w3 ⟨rfl, hI⟩
      rw [put_step l i m hlt, put_lost l i m hlt] at hI
      rw [put_told l i m hlt]
      replace HI := Aside0.mk hI
      clear hI hcell
      go_wp2_with fail
      go_roundg (l.length - (i + 1))
      case measure => omega
      case rel => exact ⟨i + 1, by go_num, by omega, rfl, HI⟩
    · obtain rfl : i = l.length := by omega
      obtain ⟨wb, rfl⟩ : ∃ wb : World, wb = wr := ⟨_, rfl⟩
      have htl := take_len l l.length m (Nat.le_refl _)
      go_wp2_with fail
      refine (RingStr.drainA HI.out (by rw [htl]; omega)).mono ?_; rintro e w3 ⟨v, rfl, hI, hR⟩
      replace HI := Aside0.mk hI
      obtain ⟨A1, c1, rfl, _, hC⟩ := R_C hR
      have HC := Aside0.mk hC
      clear hI hR hC
      rw [htl] at HC ⊢
      clear htl
      have fin : ∀ (q : Nat) (hq : q = min l.length m), q ≤ l.length := fun q hq => by omega
      have Fin := Lib.hid fin
      clear fin
      go_upto_region 11 with (fail)
      go_cut [8, 9, 59] (fun v8 v9 v59 wc => ∃ q : Nat, v8 = .slice A1 q c1 ∧ v59 = .bool false ∧ q = min l.length m ∧ Aside0 (Kd.C Kd.string wc A1 q (l.take q)) ∧ Aside0 (RingStr.At w wc g m [] false))
      case first =>
        rcases Nat.lt_trichotomy l.length m with h | h | h
        · rw [show min l.length m = l.length by omega] at HC ⊢
          have hd : decide (m < l.length) = false := decide_eq_false (by omega)
          rw [hd]
          go_wp2_with fail
          go_meet
          case rel => exact ⟨l.length, rfl, by simp, by omega, HC, HI⟩
        · rw [show min l.length m = l.length by omega] at HC ⊢
          have hd : decide (m < l.length) = false := decide_eq_false (by omega)
          rw [hd]
          subst h
          go_wp2_with fail
          all_goals
            go_meet
            case rel => exact ⟨l.length, rfl, by simp, by omega, HC, HI⟩
        · rw [show min l.length m = m by omega] at HC ⊢
          have hd : decide (m < l.length) = true := decide_eq_true (by omega)
          rw [hd]
          go_wp2_with fail
          go_meet
          case rel => exact ⟨m, rfl, by simp, by omega, HC, HI⟩
      case rest =>
        obtain ⟨q, rfl, rfl, hq, HC, HI⟩ := hcut
        have hql : q ≤ l.length := by omega
        have hlq : (l.take q).length = q := by rw [List.length_take]; omega
        have HLQ := Lib.hid hlq
        clear hq hlq
        go_wp2_with fail
        go_loopg [10] (q) (fun gg v10 wr => ∃ i : Nat, v10 = .int .i64 i ∧ i ≤ q ∧ gg = q - i ∧ Aside0 (Kd.C Kd.string wr A1 q (l.take q)) ∧ Aside0 (RingStr.At w wr g m [] false))
        case atStart => exact ⟨0, rfl, by omega, by omega, HC, HI⟩
        case round =>
          clear HC HI
          obtain ⟨i, rfl, hi, rfl, HC, HI⟩ := hrel
          by_cases hlt : i < q
          · obtain ⟨ad1, rfl, hcell1⟩ := read_str (Kd.C_below HR0.out HI.out.bel) i (by omega)
            obtain ⟨ad2, rfl, hcell2⟩ := read_str (l := l.take q) (by rw [HLQ.out]; exact HC.out) i (by rw [HLQ.out]; exact hlt)
            rw [List.getElem_take] at hcell2
            generalize l[i]'(by omega) = x at hcell1 hcell2
            have d1 : (x != x) = false := by
              show (!(x.data == x.data)) = false
              rw [beq_self_eq_true]
              rfl
            go_wp2_with fail
            go_quiet (fail)
            go_wp2_with fail
            go_roundg (q - (i + 1))
            case measure => omega
            case rel => exact ⟨i + 1, by go_num, by omega, rfl, ⟨C_drewN HC.out _⟩, ⟨HI.out.drewN _⟩⟩
          · obtain rfl : i = q := by omega
            go_wp2_with fail
            go_ret
            exact ⟨rfl, HI.out.bel⟩
end Go.Proofs.Ytmenjadceliheaa.RingOrder
