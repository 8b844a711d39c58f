/- The walk of the law RingAnew. -/
import Derived.Test.YtmenjadceliheaaRingSame
namespace Go.Proofs.Ytmenjadceliheaa.RingAnew
open Go.RowKit Go.Proofs.Ytmenjadceliheaa.RingInv Go.Proofs.Ytmenjadceliheaa.RingInt Go.Proofs.YtmenjadceliheaaW.PrintWords Go.Proofs.YtmenjadceliheaaW.PrintLast
attribute [local go_sem ↓] Go.wp_at_zero Go.wp_at_succ
set_option maxHeartbeats 8000000 in
set_option maxRecDepth 100000 in
theorem walk (n : Int) (A : Option Addr) (c : Nat) (l : List Int) (B : Option Addr) (c' : Nat) (l' : List Int) (w : World) (wn : (Lit.int .u8 n).wf = true)
    (hr : Kd.C (Kd.int .i64) w A l.length l) (_ : l.length ≤ c) (_ : ∀ s ∈ l, (Lit.int .i64 s).wf = true) (hy : l.length * 8 ≤ 140737488351232)
    (hr' : Kd.C (Kd.int .i64) w B l'.length l') (_ : l'.length ≤ c') (_ : ∀ s ∈ l', (Lit.int .i64 s).wf = true) (hy' : l'.length * 8 ≤ 140737488351232) :
    Calls Try.prog 5 #[.int .u8 n, .slice A l.length c, .slice B l'.length c'] w fun e w' => e = .returned (.bool true) ∧ Below w.heap.size w w' := by
  obtain ⟨n0, n1⟩ := bounds_u8 wn
  have hl : l.length ≤ 9223372036854775000 := by omega
  have hl' : l'.length ≤ 9223372036854775000 := by omega
  have HR0 := Lib.hid hr
  have HR1 := Lib.hid hr'
  have HB := Aside0.mk (Below.refl w.heap.size w)
  clear hr hy wn hr' hy'
  go_enter Try.func5, Try.ntmps5
  go_wp2_with fail
  refine (awake_any _).mono ?_; rintro e w1 ⟨rfl, hb⟩
  replace HB := Aside0.mk hb
  clear hb
  by_cases h4 : (400 : Int) < l.length
  · go_wp2_with fail
    refine (awake_any _).mono ?_; rintro e w2 ⟨rfl, hb⟩
    replace HB := Aside0.mk (below_step HB.out hb)
    clear hb
    go_wp2_with fail
    go_ret
    exact ⟨rfl, HB.out⟩
  by_cases h4' : (400 : Int) < l'.length
  · go_wp2_with fail
    refine (awake_any _).mono ?_; rintro e w2 ⟨rfl, hb⟩
    replace HB := Aside0.mk (below_step HB.out hb)
    clear hb
    go_wp2_with fail
    go_ret
    exact ⟨rfl, HB.out⟩
  go_wp2_with fail
  obtain ⟨m, hm⟩ := Int.eq_ofNat_of_zero_le (show 0 ≤ n % 20 by omega)
  have hm20 : m < 20 := by omega
  rw [hm]
  have HM := Lib.hid hm
  clear hm
  refine (newA HB.out (m : Int)).mono ?_; rintro e w2 ⟨g, rfl, hI⟩
  rw [show (if (m : Int) ≤ 0 then (0 : Int) else m) = m by split <;> omega] at hI
  have HI := Aside0.mk hI
  clear hI HB
  go_wp2_with fail
  refine (new2 HI.out (m : Int)).mono ?_; rintro e w3 ⟨h, rfl, hI⟩
  rw [show (if (m : Int) ≤ 0 then (0 : Int) else m) = m by split <;> omega] at hI
  replace HI := Aside0.mk hI
  clear hI
  go_wp2_with fail
  go_loopg [10] (l.length) (fun gg v10 wr => ∃ i : Nat, v10 = .int .i64 i ∧ i ≤ l.length ∧ gg = l.length - i ∧ Aside0 (At2 w wr g m (l.take (min i m)) (decide (m < i)) h m [] false))
  case atStart => exact ⟨0, rfl, by omega, by omega, ⟨by simpa using HI.out⟩⟩
  case round =>
    clear HI
    obtain ⟨i, rfl, hi, rfl, HI⟩ := hrel
    by_cases hlt : i < l.length
    · obtain ⟨ad, rfl, hcell⟩ := read_int (Kd.C_below HR0.out HI.out.bel) i hlt
      go_wp2_with fail
      refine (put2 HI.out (by rw [take_len l i m hi]; omega) _).mono ?_; rintro e w3 ⟨rfl, hI⟩
      rw [put_step l i m hlt, put_lost l i m hlt] at hI
      replace HI := Aside0.mk hI
      clear hI hcell
      go_wp2_with fail
      go_roundg (l.length - (i + 1))
      case measure => omega
      case rel => exact ⟨i + 1, by go_num, by omega, rfl, HI⟩
    · obtain rfl : i = l.length := by omega
      obtain ⟨wb, rfl⟩ : ∃ wb : World, wb = wr := ⟨_, rfl⟩
      have htl := take_len l l.length m (Nat.le_refl _)
      go_wp2_with fail
      refine (drain2 HI.out (by rw [htl]; omega)).mono ?_; rintro e w3 ⟨v, rfl, hI, _, _⟩
      replace HI := Aside0.mk hI
      clear hI
      go_wp2_with fail
      go_loopg [11] (l'.length) (fun gg v11 wr => ∃ i : Nat, v11 = .int .i64 i ∧ i ≤ l'.length ∧ gg = l'.length - i ∧ Aside0 (At2 w wr g m (l'.take (min i m)) (decide (m < i)) h m (l'.take (min i m)) (decide (m < i))))
      case atStart => exact ⟨0, rfl, by omega, by omega, ⟨by simpa using HI.out⟩⟩
      case round =>
        clear HI htl
        obtain ⟨i, rfl, hi, rfl, HI⟩ := hrel
        by_cases hlt : i < l'.length
        · obtain ⟨ad, rfl, hcell0⟩ := read_int HR1.out i hlt
          have hcell := pw_cell_below HI.out.bel hcell0
          have HC0 := Lib.hid hcell0
          clear hcell0
          have PS := Lib.hid (put_step l' i m hlt)
          have PL := Lib.hid (put_lost l' i m hlt)
          have hlen : (l'.take (min i m)).length ≤ 1000000 := by rw [take_len l' i m hi]; omega
          generalize l'[i] = x at hcell HC0 PS
          generalize l'.take (min i m) = ys at HI PS PL hlen
          have HLen := Lib.hid hlen
          clear hlen
          go_wp2_with fail
          go_region_held3 (fun w' => w'.cell? (ad.add i) = some (.int .i64 x)) (first | go_keep | exact pw_cell_below hI.bel HC0.out)
            (first
              | ((go_at_call 13; refine (put2 HI2.out.swap HLen.out _).mono ?_; rintro e w5 ⟨rfl, hI⟩; have HI3 := Aside0.mk hI.swap))
              | ((go_at_call 13; refine (put2 (HI.out.below (below_drew (Below.refl _ _))) HLen.out _).mono ?_; rintro e w4 ⟨rfl, hI⟩; have HI2 := Aside0.mk hI)))
          have hI4 := HI3.out
          rw [PS.out, PL.out] at hI4
          have HI4 := Aside0.mk hI4
          clear hI4 HI3 HI2 HI hI
          go_wp2_with fail
          go_roundg (l'.length - (i + 1))
          case measure => omega
          case rel => exact ⟨i + 1, by go_num, by omega, rfl, HI4⟩
        · obtain rfl : i = l'.length := by omega
          obtain ⟨wd, rfl⟩ : ∃ wd : World, wd = wr := ⟨_, rfl⟩
          have hlen : (l'.take (min l'.length m)).length ≤ 1000000 := by rw [take_len l' _ m hi]; omega
          generalize l'.take (min l'.length m) = ys at HI hlen
          generalize decide (m < l'.length) = p at HI
          have hhlt : h < wd.heap.size := HI.out.swap.one.lt
          go_wp2_with fail
          refine (drain2 HI.out hlen).mono ?_; rintro e w5 ⟨v, rfl, hI, hR, hK, hlt5⟩
          have HI5 := Aside0.mk hI
          have HR5 := Aside0.mk hR
          obtain ⟨A1, c1, rfl, hc1, _⟩ := R_C hR
          clear hI hR hK HI
          go_wp2_with fail
          refine (drain2 HI5.out.swap hlen).mono ?_; rintro e w6 ⟨v, rfl, hI, hR, hK, hlt6⟩
          have HI6 := Aside0.mk hI
          obtain ⟨A', c', e', _, hC5⟩ := R_C (Keeps.R HR5.out hK (fun k hk he => by have h1 := hk.1; omega))
          injection e' with e1 e2 e3
          subst e1
          have HC5 := Aside0.mk hC5
          obtain ⟨A2, c2, rfl, hc2, hC6⟩ := R_C hR
          have HC6 := Aside0.mk hC6
          clear hI hR hK HI5 HR5 hC5 hC6 e2 e3
          go_wp2_with fail
          refine (same_any ys A1 A2 c1 c2 _ hlen HC5.out hc1 HC6.out hc2).mono ?_; rintro e w7 ⟨rfl, m7, rfl⟩
          have HI7 := Aside0.mk (HI6.out.drewN m7)
          clear HI6 HC5 HC6
          go_wp2_with fail
          refine (lenA HI7.out.swap.one).mono ?_; rintro e w8 ⟨rfl, rfl⟩
          go_wp2_with fail
          refine (lenA HI7.out.one).mono ?_; rintro e w8 ⟨rfl, rfl⟩
          go_wp2_with fail
          go_ret
          exact ⟨rfl, HI7.out.bel⟩
end Go.Proofs.Ytmenjadceliheaa.RingAnew
