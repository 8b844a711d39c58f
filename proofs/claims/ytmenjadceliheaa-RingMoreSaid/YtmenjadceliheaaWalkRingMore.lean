/- The walk of the law RingMore. -/
import Derived.Test.YtmenjadceliheaaRingSame
namespace Go.Proofs.Ytmenjadceliheaa.RingMore
open Go.RowKit Go.Proofs.Ytmenjadceliheaa.RingInv Go.Proofs.Ytmenjadceliheaa.RingInt Go.Proofs.YtmenjadceliheaaW.PrintWords Go.Proofs.YtmenjadceliheaaW.PrintLast
theorem C_take {α : Type} {d : Kd α} {w : World} {A : Option Addr} {xs : List α} (h : d.C w A xs.length xs) (k : Nat) (hk : k ≤ xs.length) : d.C w A k (xs.take k) := by
  refine ⟨by rw [List.length_take]; omega, by have := h.2.1; omega, fun h0 => ?_⟩
  obtain ⟨ad, e, hc⟩ := h.2.2 (by omega)
  refine ⟨ad, e, fun i x hx => hc i x ?_⟩
  rw [List.getElem?_take] at hx
  split at hx
  · exact hx
  · cases hx
theorem put2_yes {w W : World} {g h : Nat} {room room2 : Int} {xs ys : List Int} {lost lost2 : Bool} (hI : At2 w W g room xs lost h room2 ys lost2) (hlen : xs.length ≤ 1000000) (hlt : (xs.length : Int) < room) (x : Int) :
    Calls Try.prog 13 #[.pointer (some ⟨g, 0, none⟩), .int .i64 x] W fun e w' => e = .returned (.bool true) ∧ At2 w w' g room (xs ++ [x]) lost h room2 ys lost2 := by
  have := put2 hI hlen x
  rw [if_pos hlt, decide_eq_true hlt, Bool.not_true, Bool.or_false] at this
  exact this
theorem put2_no {w W : World} {g h : Nat} {room room2 : Int} {xs ys : List Int} {lost lost2 : Bool} (hI : At2 w W g room xs lost h room2 ys lost2) (hlen : xs.length ≤ 1000000) (hlt : ¬ (xs.length : Int) < room) (x : Int) :
    Calls Try.prog 13 #[.pointer (some ⟨g, 0, none⟩), .int .i64 x] W fun e w' => e = .returned (.bool false) ∧ At2 w w' g room xs true h room2 ys lost2 := by
  have := put2 hI hlen x
  rw [if_neg hlt, decide_eq_false hlt, Bool.not_false, Bool.or_true] at this
  exact this
set_option maxHeartbeats 8000000 in
set_option maxRecDepth 100000 in
theorem walk (n n' : Int) (A : Option Addr) (c : Nat) (l : List Int) (w : World) (wn : (Lit.int .u8 n).wf = true) (wn' : (Lit.int .u8 n').wf = true)
    (hr : Kd.C (Kd.int .i64) w A l.length l) (_ : l.length ≤ c) (_ : ∀ s ∈ l, (Lit.int .i64 s).wf = true) (hy : l.length * 8 ≤ 140737488351232) :
    Calls Try.prog 6 #[.int .u8 n, .int .u8 n', .slice A l.length c] w fun e w' => e = .returned (.bool true) ∧ Below w.heap.size w w' := by
  obtain ⟨n0, n1⟩ := bounds_u8 wn
  obtain ⟨n0', n1'⟩ := bounds_u8 wn'
  have hl : l.length ≤ 9223372036854775000 := by omega
  have HR0 := Lib.hid hr
  have HB := Aside0.mk (Below.refl w.heap.size w)
  clear hr hy wn wn'
  go_enter Try.func6, Try.ntmps6
  go_wp2_with fail
  refine (awake_any _).mono ?_; rintro e w1 ⟨rfl, hb⟩
  replace HB := Aside0.mk hb
  clear hb
  by_cases h4 : (400 : Int) < l.length
  · go_wp2_with fail
    refine (awake_any _).mono ?_; rintro e w2 ⟨rfl, hb⟩
    replace HB := Aside0.mk (below_step HB.out hb)
    clear hb
    go_wp2_with fail
    go_ret
    exact ⟨rfl, HB.out⟩
  go_wp2_with fail
  obtain ⟨m, hm⟩ := Int.eq_ofNat_of_zero_le (show 0 ≤ n % 20 by omega)
  have hm20 : m < 20 := by omega
  rw [hm]
  have HM := Lib.hid hm
  clear hm
  refine (newA HB.out (m : Int)).mono ?_; rintro e w2 ⟨g, rfl, hI⟩
  rw [show (if (m : Int) ≤ 0 then (0 : Int) else m) = m by split <;> omega] at hI
  have HI := Aside0.mk hI
  clear hI HB
  go_wp2_with fail
  obtain ⟨r, hrm⟩ := Int.eq_ofNat_of_zero_le (show 0 ≤ n' % 20 by omega)
  have hr20 : r < 20 := by omega
  rw [hrm, ← Int.natCast_add]
  have HMR := Lib.hid hrm
  clear hrm
  refine (new2 HI.out ((m + r : Nat) : Int)).mono ?_; rintro e w3 ⟨h, rfl, hI⟩
  rw [show (if ((m + r : Nat) : Int) ≤ 0 then (0 : Int) else ((m + r : Nat) : Int)) = ((m + r : Nat) : Int) by split <;> omega] at hI
  replace HI := Aside0.mk hI
  clear hI
  go_wp2_with fail
  go_loopg [10] (l.length) (fun gg v10 wr => ∃ i : Nat, v10 = .int .i64 i ∧ i ≤ l.length ∧ gg = l.length - i ∧ Aside0 (At2 w wr g m (l.take (min i m)) (decide (m < i)) h ((m + r : Nat) : Int) (l.take (min i (m + r))) (decide (m + r < i))))
  case atStart => exact ⟨0, rfl, by omega, by omega, ⟨by simpa using HI.out⟩⟩
  case round =>
    clear HI
    obtain ⟨i, rfl, hi, rfl, HI⟩ := hrel
    by_cases hlt : i < l.length
    · obtain ⟨ad, rfl, hcell0⟩ := read_int HR0.out i hlt
      have hcell := pw_cell_below HI.out.bel hcell0
      have HC0 := Lib.hid hcell0
      clear hcell0
      have PS := Lib.hid (put_step l i (m + r) hlt)
      have PL := Lib.hid (put_lost l i (m + r) hlt)
      have PT := Lib.hid (put_told l i (m + r) hlt)
      have PS1 := Lib.hid (put_step l i m hlt)
      have HL1 := Lib.hid (take_len l i m hi)
      have HL2 := Lib.hid (take_len l i (m + r) hi)
      generalize l[i] = x at hcell HC0 PS PS1
      by_cases him : i < m
      · go_wp2_with fail
        refine (put2_yes HI.out (by rw [HL1.out]; omega) (by rw [HL1.out]; omega) x).mono ?_; rintro e w4 ⟨rfl, hI⟩
        have e1 : l.take (min i m) ++ [x] = l.take (min (i + 1) m) := by rw [← PS1.out, if_pos (by rw [HL1.out]; omega)]
        have e2 : decide (m < i) = decide (m < i + 1) := by rw [decide_eq_decide]; omega
        rw [e1, e2] at hI
        replace HI := Aside0.mk hI
        clear hI e1 e2 hcell
        have hcell := pw_cell_below HI.out.bel HC0.out
        go_wp2_with fail
        refine (put2 HI.out.swap (by rw [HL2.out]; omega) x).mono ?_; rintro e w5 ⟨rfl, hI⟩
        rw [PS.out, PL.out] at hI
        rw [PT.out, decide_eq_true (show (i : Int) < ((m + r : Nat) : Int) by omega)]
        replace HI := Aside0.mk hI.swap
        clear hI
        have e2 : decide (m < i + 1) = false := decide_eq_false (by omega)
        go_wp2_with fail
        refine (lostA HI.out.one).mono ?_; rintro e w6 ⟨rfl, rfl⟩
        rw [e2]
        clear e2
        go_wp2_with fail
        go_roundg (l.length - (i + 1))
        case measure => omega
        case rel => exact ⟨i + 1, by go_num, by omega, rfl, HI⟩
      · go_wp2_with fail
        refine (put2_no HI.out (by rw [HL1.out]; omega) (by rw [HL1.out]; omega) x).mono ?_; rintro e w4 ⟨rfl, hI⟩
        have e1 : l.take (min i m) = l.take (min (i + 1) m) := by rw [← PS1.out, if_neg (by rw [HL1.out]; omega)]
        have E2 := Lib.hid (show true = decide (m < i + 1) from (decide_eq_true (by omega)).symm)
        rw [e1] at hI
        replace HI := Aside0.mk hI
        clear hI e1 hcell
        have hcell := pw_cell_below HI.out.bel HC0.out
        go_wp2_with fail
        refine (lostA HI.out.one).mono ?_; rintro e w6 ⟨rfl, rfl⟩
        go_wp2_with fail
        refine (put2 HI.out.swap (by rw [HL2.out]; omega) x).mono ?_; rintro e w5 ⟨rfl, hI⟩
        rw [PS.out, PL.out] at hI
        replace HI := Aside0.mk hI.swap
        rw [E2.out] at HI
        clear hI E2
        go_wp2_with fail
        go_roundg (l.length - (i + 1))
        case measure => omega
        case rel => exact ⟨i + 1, by go_num, by omega, rfl, HI⟩
    · obtain rfl : i = l.length := by omega
      obtain ⟨wd, rfl⟩ : ∃ wd : World, wd = wr := ⟨_, rfl⟩
      have hl1 := take_len l l.length m (Nat.le_refl _)
      have hl2 := take_len l l.length (m + r) (Nat.le_refl _)
      have HT := Lib.hid (show (l.take (min l.length (m + r))).take (l.take (min l.length m)).length = l.take (min l.length m) from by
        rw [hl1, List.take_take]
        congr 1
        omega)
      have hle : (l.take (min l.length m)).length ≤ (l.take (min l.length (m + r))).length := by rw [hl1, hl2]; omega
      have hlx : (l.take (min l.length m)).length ≤ 1000000 := by rw [hl1]; omega
      have hly : (l.take (min l.length (m + r))).length ≤ 1000000 := by rw [hl2]; omega
      clear hl1 hl2
      generalize l.take (min l.length m) = xs at HI HT hle hlx
      generalize l.take (min l.length (m + r)) = ys at HI HT hle hly
      generalize decide (m < l.length) = p at HI
      generalize decide (m + r < l.length) = q at HI
      have hhlt : h < wd.heap.size := HI.out.swap.one.lt
      go_wp2_with fail
      refine (drain2 HI.out hlx).mono ?_; rintro e w5 ⟨v, rfl, hI, hR, hK, hlt5⟩
      have HI5 := Aside0.mk hI
      have HR5 := Aside0.mk hR
      obtain ⟨A1, c1, rfl, hc1, _⟩ := R_C hR
      clear hI hR hK HI
      go_wp2_with fail
      refine (drain2 HI5.out.swap hly).mono ?_; rintro e w6 ⟨v, rfl, hI, hR, hK, hlt6⟩
      have HI6 := Aside0.mk hI
      obtain ⟨A', c', e', _, hC5⟩ := R_C (Keeps.R HR5.out hK (fun k hk he => by have h1 := hk.1; omega))
      injection e' with e1 e2 e3
      subst e1
      have HC5 := Aside0.mk hC5
      obtain ⟨A2, c2, rfl, hc2, hC6⟩ := R_C hR
      have HC6 := Aside0.mk hC6
      clear hI hR hK HI5 HR5 hC5 hC6 e2 e3
      go_wp2_with fail
      have hCT := C_take HC6.out xs.length hle
      rw [HT.out] at hCT
      refine (same_any xs A2 A1 c2 c1 _ hlx hCT (by omega) HC5.out hc1).mono ?_; rintro e w7 ⟨rfl, m7, rfl⟩
      have HI7 := Aside0.mk (HI6.out.drewN m7)
      clear HI6 HC5 HC6
      go_wp2_with fail
      go_ret
      exact ⟨rfl, HI7.out.bel⟩
end Go.Proofs.Ytmenjadceliheaa.RingMore
