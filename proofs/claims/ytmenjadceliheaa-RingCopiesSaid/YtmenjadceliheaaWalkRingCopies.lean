/- The walk of the law RingCopies. -/
import Derived.Test.YtmenjadceliheaaRingCopy
namespace Go.Proofs.Ytmenjadceliheaa.RingCopies
open Go.RowKit Go.Proofs.Ytmenjadceliheaa.RingInv Go.Proofs.Ytmenjadceliheaa.RingInt Go.Proofs.YtmenjadceliheaaW.PrintWords Go.Proofs.YtmenjadceliheaaW.PrintLast
theorem C_take {α : Type} {d : Kd α} {w : World} {A : Option Addr} {xs : List α} (h : d.C w A xs.length xs) (k : Nat) (hk : k ≤ xs.length) : d.C w A k (xs.take k) := by
  refine ⟨by rw [List.length_take]; omega, by have := h.2.1; omega, fun h0 => ?_⟩
  obtain ⟨ad, e, hc⟩ := h.2.2 (by omega)
  refine ⟨ad, e, fun i x hx => hc i x ?_⟩
  rw [List.getElem?_take] at hx
  split at hx
  · exact hx
  · cases hx
theorem more_step (l l' : List Int) (i m : Nat) (h : i < l'.length) : (if (((l ++ l').take (min (l.length + i) m)).length : Int) < (m : Int) then (l ++ l').take (min (l.length + i) m) ++ [l'[i]] else (l ++ l').take (min (l.length + i) m)) = (l ++ l').take (min (l.length + i + 1) m) := by
  have hll : l.length + i < (l ++ l').length := by rw [List.length_append]; omega
  have := put_step (l ++ l') (l.length + i) m hll
  rw [List.getElem_append_right (by omega)] at this
  simpa only [Nat.add_sub_cancel_left] using this
theorem copy2 {w W : World} {g : Nat} {room : Int} {xs : List Int} {lost : Bool} (hI : At w W g room xs lost) (hlen : xs.length ≤ 1000000) :
    Calls Try.prog 21 #[.pointer (some ⟨g, 0, none⟩)] W fun e w' => ∃ h, e = .returned (.pointer (some ⟨h, 0, none⟩)) ∧ At2 w w' g room xs lost h room xs lost := by
  obtain ⟨F, h1, h2, h3⟩ := hI
  refine (copy_any h1 hlen).mono ?_
  rintro e w' ⟨h, he, hI, hB⟩
  exact ⟨h, he, F, _, h1.below hB, hI, fun k hf hk => by have := h1.2.1 k hf; omega, h2, fun k hk => Nat.le_trans h3.size hk.1, below_step h3 hB⟩
set_option maxHeartbeats 8000000 in
set_option maxRecDepth 100000 in
theorem walk (n : Int) (A : Option Addr) (c : Nat) (l : List Int) (B : Option Addr) (c' : Nat) (l' : List Int) (w : World) (wn : (Lit.int .u8 n).wf = true)
    (hr : Kd.C (Kd.int .i64) w A l.length l) (_ : l.length ≤ c) (_ : ∀ s ∈ l, (Lit.int .i64 s).wf = true) (hy : l.length * 8 ≤ 140737488351232)
    (hr' : Kd.C (Kd.int .i64) w B l'.length l') (_ : l'.length ≤ c') (_ : ∀ s ∈ l', (Lit.int .i64 s).wf = true) (hy' : l'.length * 8 ≤ 140737488351232) :
    Calls Try.prog 7 #[.int .u8 n, .slice A l.length c, .slice B l'.length c'] w fun e w' => e = .returned (.bool true) ∧ Below w.heap.size w w' := by
  obtain ⟨n0, n1⟩ := bounds_u8 wn
  have hl : l.length ≤ 9223372036854775000 := by omega
  have hl' : l'.length ≤ 9223372036854775000 := by omega
  have HR0 := Lib.hid hr
  have HR1 := Lib.hid hr'
  have HB := Aside0.mk (Below.refl w.heap.size w)
  clear hr hy wn hr' hy'
  go_enter Try.func7, Try.ntmps7
  go_wp2_with fail
  refine (awake_any _).mono ?_; rintro e w1 ⟨rfl, hb⟩
  replace HB := Aside0.mk hb
  clear hb
  by_cases h4 : (400 : Int) < l.length
  · go_wp2_with fail
    refine (awake_any _).mono ?_; rintro e w2 ⟨rfl, hb⟩
    replace HB := Aside0.mk (below_step HB.out hb)
    clear hb
    go_wp2_with fail
    go_ret
    exact ⟨rfl, HB.out⟩
  by_cases h4' : (400 : Int) < l'.length
  · go_wp2_with fail
    refine (awake_any _).mono ?_; rintro e w2 ⟨rfl, hb⟩
    replace HB := Aside0.mk (below_step HB.out hb)
    clear hb
    go_wp2_with fail
    go_ret
    exact ⟨rfl, HB.out⟩
  obtain ⟨m, hm⟩ := Int.eq_ofNat_of_zero_le (show 0 ≤ n % 20 by omega)
  have hm20 : m < 20 := by omega
  go_wp2_with fail
  try rw [hm]
  have HM := Lib.hid hm
  refine (newA HB.out (m : Int)).mono ?_; rintro e w2 ⟨g, rfl, hI⟩
  rw [show (if (m : Int) ≤ 0 then (0 : Int) else m) = m by split <;> omega] at hI
  have HI := Aside0.mk hI
  clear hI HB
  go_wp2_with fail
  go_loopg [8] (l.length) (fun gg v8 wr => ∃ i : Nat, v8 = .int .i64 i ∧ i ≤ l.length ∧ gg = l.length - i ∧ Aside0 (At w wr g m (l.take (min i m)) (decide (m < i))))
  case atStart => exact ⟨0, rfl, by omega, by omega, ⟨by simpa using HI.out⟩⟩
  case round =>
    clear HI
    obtain ⟨i, rfl, hi, rfl, HI⟩ := hrel
    by_cases hlt : i < l.length
    · obtain ⟨ad, rfl, hcell⟩ := read_int (Kd.C_below HR0.out HI.out.bel) i hlt
      go_wp2_with fail
      refine (putA HI.out (by rw [take_len l i m hi]; omega) _).mono ?_; rintro e w3 ⟨rfl, hI⟩
      rw [put_step l i m hlt, put_lost l i m hlt] at hI
      replace HI := Aside0.mk hI
      clear hI hcell
      go_wp2_with fail
      go_roundg (l.length - (i + 1))
      case measure => omega
      case rel => exact ⟨i + 1, by go_num, by omega, rfl, HI⟩
    · obtain rfl : i = l.length := by omega
      obtain ⟨wb, rfl⟩ : ∃ wb : World, wb = wr := ⟨_, rfl⟩
      have htl := take_len l l.length m (Nat.le_refl _)
      have HXS := Lib.hid (show l.take (min l.length m) = (l ++ l').take (min (l.length + 0) m) from by
        rw [Nat.add_zero, List.take_append_of_le_length (by omega)])
      obtain ⟨xs, hxs⟩ : ∃ xs, xs = l.take (min l.length m) := ⟨_, rfl⟩
      rw [← hxs] at HI htl HXS
      have HXL := Lib.hid htl
      have hxl : xs.length ≤ 1000000 := by omega
      obtain ⟨p, hp⟩ : ∃ p, p = decide (m < l.length) := ⟨_, rfl⟩
      rw [← hp] at HI
      have HP := Lib.hid hp
      clear hxs hp htl
      go_wp2_with fail
      refine (copy2 HI.out hxl).mono ?_; rintro e w3 ⟨h, rfl, hI⟩
      replace HI := Aside0.mk hI
      clear hI
      go_wp2_with fail
      refine (lostA HI.out.one).mono ?_; rintro e w4 ⟨rfl, rfl⟩
      go_wp2_with fail
      refine (lenA HI.out.one).mono ?_; rintro e w5 ⟨rfl, rfl⟩
      go_wp2_with fail
      go_loopg [12] (l'.length) (fun gg v12 wr => ∃ i : Nat, v12 = .int .i64 i ∧ i ≤ l'.length ∧ gg = l'.length - i ∧ Aside0 (At2 w wr g m xs p h m ((l ++ l').take (min (l.length + i) m)) (decide (m < l.length + i))))
      case atStart => exact ⟨0, rfl, by omega, by omega, ⟨by rw [← HXS.out, Nat.add_zero, ← HP.out]; exact HI.out⟩⟩
      case round =>
        clear HI
        obtain ⟨i, rfl, hi, rfl, HI⟩ := hrel
        by_cases hlt : i < l'.length
        · obtain ⟨ad, rfl, hcell⟩ := read_int (Kd.C_below HR1.out HI.out.bel) i hlt
          have hll : l.length + i < (l ++ l').length := by rw [List.length_append]; omega
          have PS := more_step l l' i m hlt
          have PL := put_lost (l ++ l') (l.length + i) m hll
          have hlen : ((l ++ l').take (min (l.length + i) m)).length ≤ 1000000 := by rw [take_len _ _ _ (by omega)]; omega
          replace PS := Lib.hid PS
          replace PL := Lib.hid PL
          clear hll
          generalize l'[i] = x at hcell PS
          generalize (l ++ l').take (min (l.length + i) m) = ys at HI PS PL hlen
          have HLen := Lib.hid hlen
          clear hlen
          go_wp2_with fail
          refine (put2 HI.out.swap HLen.out x).mono ?_; rintro e w6 ⟨rfl, hI⟩
          rw [PS.out, PL.out] at hI
          replace HI := Aside0.mk hI.swap
          clear hI hcell PS PL
          go_wp2_with fail
          go_roundg (l'.length - (i + 1))
          case measure => omega
          case rel => exact ⟨i + 1, by go_num, by omega, rfl, HI⟩
        · obtain rfl : i = l'.length := by omega
          obtain ⟨wd, rfl⟩ : ∃ wd : World, wd = wr := ⟨_, rfl⟩
          have hyl := take_len (l ++ l') (l.length + l'.length) m (by rw [List.length_append]; omega)
          have hxl2 := HXL.out
          have HT := Lib.hid (show ((l ++ l').take (min (l.length + l'.length) m)).take xs.length = xs from by
            rw [hxl2, List.take_take, HXS.out, Nat.add_zero]
            congr 1
            omega)
          have hle : xs.length ≤ ((l ++ l').take (min (l.length + l'.length) m)).length := by rw [hxl2, hyl]; omega
          have hlyy : ((l ++ l').take (min (l.length + l'.length) m)).length ≤ 1000000 := by rw [hyl]; omega
          obtain ⟨q, hq⟩ : ∃ q, q = decide (m < l.length + l'.length) := ⟨_, rfl⟩
          rw [← hq] at HI
          have HQ := Lib.hid hq
          clear hyl hxl2 hq
          generalize (l ++ l').take (min (l.length + l'.length) m) = ys at HI HT hle hlyy
          have hhlt : h < wd.heap.size := HI.out.swap.one.lt
          go_wp2_with fail
          refine (lenA HI.out.one).mono ?_; rintro e w6 ⟨rfl, rfl⟩
          go_wp2_with fail
          refine (lostA HI.out.one).mono ?_; rintro e w7 ⟨rfl, rfl⟩
          go_wp2_with fail
          refine (drain2 HI.out hxl).mono ?_; rintro e w5 ⟨v, rfl, hI, hR, hK, hlt5⟩
          have HI5 := Aside0.mk hI
          have HR5 := Aside0.mk hR
          obtain ⟨A1, c1, rfl, hc1, _⟩ := R_C hR
          clear hI hR hK HI
          go_wp2_with fail
          refine (drain2 HI5.out.swap hlyy).mono ?_; rintro e w6 ⟨v, rfl, hI, hR, hK, hlt6⟩
          have HI6 := Aside0.mk hI
          obtain ⟨A', c', e', _, hC5⟩ := R_C (Keeps.R HR5.out hK (fun k hk he => by have h1 := hk.1; omega))
          injection e' with e1 e2 e3
          subst e1
          have HC5 := Aside0.mk hC5
          obtain ⟨A2, c2, rfl, hc2, hC6⟩ := R_C hR
          have HC6 := Aside0.mk hC6
          clear hI hR hK HI5 HR5 hC5 hC6 e2 e3
          go_wp2_with fail
          have hCT := C_take HC6.out xs.length hle
          rw [HT.out] at hCT
          refine (same_any xs A2 A1 c2 c1 _ hxl hCT (by omega) HC5.out hc1).mono ?_; rintro e w7 ⟨rfl, m7, rfl⟩
          have HI7 := Aside0.mk (HI6.out.drewN m7)
          clear HI6 HC5 HC6 hCT
          have hxlm := HXL.out
          by_cases hmL : m < l.length
          · obtain rfl : p = true := by rw [HP.out]; exact decide_eq_true hmL
            obtain rfl : q = true := by rw [HQ.out]; exact decide_eq_true (by omega)
            clear hxlm
            go_wp2_with fail
            refine (lenA HI7.out.swap.one).mono ?_; rintro e w8 ⟨rfl, rfl⟩
            go_wp2_with fail
            refine (lenA HI7.out.one).mono ?_; rintro e w8 ⟨rfl, rfl⟩
            go_wp2_with fail
            refine (lostA HI7.out.swap.one).mono ?_; rintro e w8 ⟨rfl, rfl⟩
            go_wp2_with fail
            refine (lostA HI7.out.one).mono ?_; rintro e w8 ⟨rfl, rfl⟩
            go_wp2_with fail
            go_ret
            exact ⟨rfl, HI7.out.bel⟩
          · obtain rfl : p = false := by rw [HP.out]; exact decide_eq_false hmL
            have hxn : xs.length = l.length := by omega
            have hq := HQ.out
            cases q with
            | true =>
              have hmm : m < l.length + l'.length := of_decide_eq_true hq.symm
              have d1 : decide ((m : Int) < (xs.length : Int) + (l'.length : Int)) = true := decide_eq_true (by omega)
              have d2 : (m : Int) < (xs.length : Int) + (l'.length : Int) := by omega
              clear hq hxlm hmm hxn
              go_wp2_with fail
              refine (lenA HI7.out.swap.one).mono ?_; rintro e w8 ⟨rfl, rfl⟩
              go_wp2_with fail
              refine (lenA HI7.out.one).mono ?_; rintro e w8 ⟨rfl, rfl⟩
              go_wp2_with fail
              refine (lostA HI7.out.swap.one).mono ?_; rintro e w8 ⟨rfl, rfl⟩
              go_wp2_with fail
              refine (lostA HI7.out.one).mono ?_; rintro e w8 ⟨rfl, rfl⟩
              go_wp2_with fail
              go_ret
              exact ⟨rfl, HI7.out.bel⟩
            | false =>
              have hmm : ¬ m < l.length + l'.length := of_decide_eq_false hq.symm
              have d1 : decide ((m : Int) < (xs.length : Int) + (l'.length : Int)) = false := decide_eq_false (by omega)
              have d2 : (xs.length : Int) + (l'.length : Int) ≤ (m : Int) := by omega
              clear hq hxlm hmm hxn
              go_wp2_with fail
              refine (lenA HI7.out.swap.one).mono ?_; rintro e w8 ⟨rfl, rfl⟩
              go_wp2_with fail
              refine (lenA HI7.out.one).mono ?_; rintro e w8 ⟨rfl, rfl⟩
              go_wp2_with fail
              refine (lostA HI7.out.swap.one).mono ?_; rintro e w8 ⟨rfl, rfl⟩
              go_wp2_with fail
              refine (lostA HI7.out.one).mono ?_; rintro e w8 ⟨rfl, rfl⟩
              go_wp2_with fail
              go_ret
              exact ⟨rfl, HI7.out.bel⟩
end Go.Proofs.Ytmenjadceliheaa.RingCopies
