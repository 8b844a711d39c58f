/- The walk of the law RingPlays. -/
import Derived.Test.YtmenjadceliheaaRingAll
import Derived.Test.YtmenjadceliheaaElemRingPlays
import Derived.BigQuiet
namespace Go.Proofs.Ytmenjadceliheaa.RingPlays
open Go.RowKit Go.Proofs.Ytmenjadceliheaa.PRingPlays Go.Proofs.Ytmenjadceliheaa.RingInv Go.Proofs.Ytmenjadceliheaa.RingInt Go.Proofs.YtmenjadceliheaaW.PrintWords Go.Proofs.YtmenjadceliheaaW.PrintLast
theorem C_take {α : Type} {d : Kd α} {w : World} {A : Option Addr} {xs : List α} (h : d.C w A xs.length xs) (k : Nat) (hk : k ≤ xs.length) : d.C w A k (xs.take k) := by
  refine ⟨by rw [List.length_take]; omega, by have := h.2.1; omega, fun h0 => ?_⟩
  obtain ⟨ad, e, hc⟩ := h.2.2 (by omega)
  refine ⟨ad, e, fun i x hx => hc i x ?_⟩
  rw [List.getElem?_take] at hx
  split at hx
  · exact hx
  · cases hx
/-- The state: the ring, and the document's row beside it, apart. -/
def St (w W : World) (g : Nat) (room : Int) (xs : List Int) (lost : Bool) (v : Value) (ys : List Int) : Prop :=
  ∃ F G : Nat → Prop, Is W g room xs lost F ∧ Kd.R (Kd.int .i64) 3 W w.heap.size G v ys ∧ (∀ k, F k → ¬ G k) ∧ (∀ k, F k → w.heap.size ≤ k) ∧ (∀ k, G k → k < W.heap.size) ∧ Below w.heap.size w W
section
variable {w W W' : World} {g : Nat} {room : Int} {xs ys : List Int} {lost : Bool} {v : Value}
theorem St.bel (h : St w W g room xs lost v ys) : Below w.heap.size w W := by obtain ⟨_, _, _, _, _, _, _, h⟩ := h; exact h
theorem St.at_ (h : St w W g room xs lost v ys) : At w W g room xs lost := by obtain ⟨F, G, h1, h2, h3, h4, h5, h6⟩ := h; exact ⟨F, h1, h4, h6⟩
theorem St.row (h : St w W g room xs lost v ys) : ∃ A c, v = .slice A ys.length c ∧ ys.length ≤ c ∧ Kd.C (Kd.int .i64) W A ys.length ys := by obtain ⟨F, G, h1, h2, h3, h4, h5, h6⟩ := h; exact R_C h2
theorem St.below (h : St w W g room xs lost v ys) (hb : Below W.heap.size W W') : St w W' g room xs lost v ys := by
  obtain ⟨F, G, h1, h2, h3, h4, h5, h6⟩ := h
  exact ⟨F, G, h1.below hb, Kd.R_below h2 hb, h3, h4, fun k hk => Nat.lt_of_lt_of_le (h5 k hk) hb.size, below_step h6 hb⟩
theorem newS (hb : Below w.heap.size w W) (a : Int) : Calls Try.prog 9 #[.int .i64 a] W fun e w' => ∃ g, e = .returned (.pointer (some ⟨g, 0, none⟩)) ∧ St w w' g (if a ≤ 0 then 0 else a) [] false (.slice none 0 0) [] := by
  refine (newA hb a).mono ?_
  rintro e w' ⟨g, he, F, hI, h2, h3⟩
  exact ⟨g, he, F, fun _ => False, hI, Kd.R_nil _ _ _ _ _, fun _ _ h => h, h2, fun _ h => h.elim, h3⟩
theorem drainS (h : St w W g room xs lost v xs) (hlen : xs.length ≤ 1000000) : Calls Try.prog 10 #[.pointer (some ⟨g, 0, none⟩)] W fun e w' => ∃ A c, e = .returned (.tuple #[.slice A xs.length c, .bool lost]) ∧ xs.length ≤ c ∧ Kd.C (Kd.int .i64) w' A xs.length xs ∧
    St w w' g room [] false (.slice none 0 0) [] ∧ (∃ A2 c2, v = .slice A2 xs.length c2 ∧ xs.length ≤ c2 ∧ Kd.C (Kd.int .i64) w' A2 xs.length xs) := by
  obtain ⟨F, G, h1, h2, h3, h4, h5, h6⟩ := h
  refine (drain_any h1 hlen).mono ?_
  rintro e w' ⟨v', he, hI, hK, hR⟩
  obtain ⟨A, c, rfl, hc, hC⟩ := R_C hR
  exact ⟨A, c, he, hc, hC, ⟨_, fun _ => False, hI, Kd.R_nil _ _ _ _ _, fun k _ hk => hk, fun k hk => by rw [hk]; exact h4 g h1.1, fun k hk => hk.elim, Keeps.below h6 h6.size hK (fun k hk => by rw [hk]; exact h4 g h1.1)⟩, R_C (Keeps.R h2 hK (fun k hg hk => by subst hk; exact h3 k h1.1 hg))⟩
/-- A put, of the document's row. -/
theorem refS (h : St w W g room xs lost v ys) (hlen : ys.length ≤ 1000000) (r : Int) (x : Int) : Calls Try.prog 12 #[v, .int .i64 r, .int .i64 x] W fun e w' => ∃ v2, e = .returned (.tuple #[v2, .int .i64 (if (ys.length : Int) < r then 1 else 0)]) ∧
    St w w' g room xs lost v2 (if (ys.length : Int) < r then ys ++ [x] else ys) := by
  obtain ⟨F, G, h1, h2, h3, h4, h5, h6⟩ := h
  have hf : doormanref03_Put.f ys r x = some (if (ys.length : Int) < r then ys ++ [x] else ys, if (ys.length : Int) < r then 1 else 0) := by
    unfold doormanref03_Put.f
    by_cases hh : (ys.length : Int) < r
    · rw [if_pos hh, if_pos hh, if_pos hh]
      simp only [Option.bind_some, List.nil_append, List.length_nil]
      rw [if_pos (by omega), if_pos (by omega)]
    · rw [if_neg hh, if_neg hh, if_neg hh]
  refine (doormanref03_Put.calls G v ys r x _ _ w W h6 h2 hf).mono ?_
  rintro e w' ⟨v2, he, hR, hB, hK⟩
  exact ⟨v2, he, F, fun k => (G k ∨ W.heap.size ≤ k) ∧ k < w'.heap.size, h1.kept hK (fun k hf hg => h3 k hf hg), Kd.R_mono (Kd.R_bound hR) (fun k hk => ⟨hk.1, hk.2.2.1⟩), fun k hf hg => hg.1.elim (h3 k hf) (fun hw => by have := h1.2.1 k hf; omega), h4, fun k hk => hk.2, hB⟩
/-- A put, of the ring. -/
theorem putS (h : St w W g room xs lost v ys) (hlen : xs.length ≤ 1000000) (x : Int) : Calls Try.prog 13 #[.pointer (some ⟨g, 0, none⟩), .int .i64 x] W fun e w' => e = .returned (.bool (decide ((xs.length : Int) < room))) ∧
    St w w' g room (if (xs.length : Int) < room then xs ++ [x] else xs) (lost || !decide ((xs.length : Int) < room)) v ys := by
  obtain ⟨F, G, h1, h2, h3, h4, h5, h6⟩ := h
  refine (put_any h1 hlen x).mono ?_
  rintro e w' ⟨he, F', hI', hF', hK⟩
  exact ⟨he, F', G, hI', Keeps.R h2 hK (fun k hg hf => h3 k hf hg), fun k hf hg => (hF' k hf).elim (fun h => h3 k h hg) (fun h => by have := h5 k hg; omega), fun k hk => (hF' k hk).elim (h4 k) (fun h => Nat.le_trans h6.size h), fun k hk => Nat.lt_of_lt_of_le (h5 k hk) hK.1.size, Keeps.below h6 h6.size hK h4⟩
/-- r.All()(yield): the box behind it; the state stands. -/
theorem allS {Wc : World} {pb Bs sb sn : Nat} (h : St w Wc g room xs lost v xs) (hb : Below Wc.heap.size Wc W) (hpw : Wc.heap.size ≤ pb) (hpb : W.heap[pb]? = some (.cells #[.slice none 0 0] 26 (0, 0))) (hs1 : sn ≤ 255)
    (hsb : W.heap[sb]? = some (.cells #[.int .u8 sn] 5 (0, 0))) (hBs : W.heap[Bs]? = some (.cells #[.pointer (some ⟨g, 0, none⟩)] 24 (0, 0))) (hlen : xs.length ≤ 1000000) :
    Calls Try.prog 22 #[.func (.func 15) #[] #[.pointer (some ⟨pb, 0, none⟩), .pointer (some ⟨sb, 0, none⟩)], .pointer (some ⟨Bs, 0, none⟩)] W fun e w' => (∃ v, e = .returned v) ∧ St w w' g room xs lost v xs ∧
      (∃ A c, w'.cell? ⟨pb, 0, none⟩ = some (.slice A (xs.take (sn + 1)).length c) ∧ (xs.take (sn + 1)).length ≤ c ∧ Kd.C (Kd.int .i64) w' A (xs.take (sn + 1)).length (xs.take (sn + 1))) ∧ w'.heap[sb]? = some (.cells #[.int .u8 sn] 5 (0, 0)) := by
  obtain ⟨F, G, h1, h2, h3, h4, h5, h6⟩ := h
  refine (all_call (h1.below hb) (G := fun k => k = pb) ⟨rfl, fun k hk => by rw [hk]; exact blk_lt hpb, _, hpb, Kd.R_nil _ _ _ _ _⟩ (fun k hk e => by have := h1.2.1 k hk; omega) hs1 hsb hBs hlen).mono ?_
  rintro e w' ⟨he, G', ⟨_, _, v', hb', hR'⟩, _, hK, hsb'⟩
  obtain ⟨A, c, rfl, hc, hC⟩ := R_C hR'
  have hne : ∀ k, k < Wc.heap.size → ¬ k = pb := fun k hk e => by omega
  exact ⟨he, ⟨F, G, (h1.below hb).keeps hK (fun k hk => hne k (h1.2.1 k hk)), Keeps.R (Kd.R_below h2 hb) hK (fun k hk => hne k (h5 k hk)), h3, h4, fun k hk => by have := h5 k hk; have := hb.size; have := hK.1.size; omega, Keeps.below (below_step h6 hb) (Nat.le_trans h6.size hb.size) hK (fun k hk => by rw [hk]; exact Nat.le_trans h6.size hpw)⟩, ⟨A, c, (blk_cell hb' 0).trans rfl, hc, hC⟩, hsb'⟩
end
set_option maxHeartbeats 16000000 in
set_option maxRecDepth 100000 in
theorem walk (room : Int) (A : Option Addr) (c : Nat) (l : List (Bool × Int)) (s : Int) (w : World) (wr0 : (Lit.int .i64 room).wf = true)
    (hr : Kd.C k28 w A l.length l) (_ : l.length ≤ c) (_ : ∀ y ∈ l, (Lit.int .i64 y.2).wf = true) (hy : l.length * 16 ≤ 140737488351232) (ws : (Lit.int .u8 s).wf = true) :
    Calls Try.prog 3 #[.int .i64 room, .slice A l.length c, .int .u8 s] w fun e w' => e = .returned (.bool true) ∧ Below w.heap.size w w' := by
  obtain ⟨s0, s1⟩ := bounds_u8 ws
  obtain ⟨r0, r1⟩ := bounds_i64 wr0
  have hl : l.length ≤ 9223372036854775000 := by omega
  obtain ⟨sn, rfl⟩ := Int.eq_ofNat_of_zero_le s0
  have HR0 := Lib.hid hr
  have HB := Aside0.mk (Below.refl w.heap.size w)
  clear hr hy ws wr0
  go_enter Try.func3, Try.ntmps3
  go_wp2_with fail
  obtain ⟨w0, hw0⟩ : ∃ w0, w0 = w.alloc (.cells #[.int .u8 (sn : Int)] 5) := ⟨_, rfl⟩
  rw [← hw0]
  have SB0 := Aside0.mk (show w0.heap[w.heap.size]? = some (.cells #[.int .u8 (sn : Int)] 5 (0, 0)) by rw [hw0]; exact blk_new _ _)
  have HBW := Lib.hid (show Below w.heap.size w w0 by rw [hw0]; exact below_alloc (Below.refl _ _) _)
  have HR1 := Lib.hid (Kd.C_below HR0.out HBW.out)
  clear hw0 HB HR0
  obtain ⟨sb, hsbe⟩ : ∃ sb, sb = w.heap.size := ⟨_, rfl⟩
  rw [← hsbe] at SB0 ⊢
  have HSZ := Lib.hid (show w.heap.size ≤ w0.heap.size by rw [← hsbe]; exact Nat.le_of_lt (blk_lt SB0.out))
  clear hsbe
  refine (awake_any _).mono ?_; rintro e w1 ⟨rfl, hb⟩
  have HB := Aside0.mk hb
  clear hb
  by_cases h4 : (400 : Int) < l.length
  · go_wp2_with fail
    refine (awake_any _).mono ?_; rintro e w2 ⟨rfl, hb⟩
    replace HB := Aside0.mk (below_step HB.out hb)
    clear hb
    go_wp2_with fail
    go_ret
    exact ⟨rfl, HBW.out.trans (HB.out.mono HSZ.out)⟩
  go_wp2_with fail
  refine (newS HB.out room).mono ?_; rintro e w2 ⟨g, rfl, hI⟩
  obtain ⟨rm, hrm⟩ : ∃ rm, rm = (if room ≤ 0 then (0 : Int) else room) := ⟨_, rfl⟩
  rw [← hrm] at hI
  have HRM := Lib.hid hrm
  have HI := Aside0.mk hI
  clear hI HB hrm
  go_wp2_with fail
  go_loopg [8, 9, 10] (l.length) (fun gg v8 v9 v10 wr => ∃ (i : Nat) (xs : List Int) (lost : Bool), v9 = .bool lost ∧ v10 = .int .i64 i ∧ i ≤ l.length ∧ gg = l.length - i ∧ xs.length ≤ i ∧ Aside0 (St w0 wr g rm xs lost v8 xs))
  case atStart => exact ⟨0, [], false, rfl, rfl, by omega, by omega, Nat.le_refl _, HI⟩
  case round =>
    clear HI
    obtain ⟨i, xs, lost, rfl, rfl, hi, rfl, hxi, HI⟩ := hrel
    by_cases hlt : i < l.length
    · obtain ⟨ad, rfl, hcd0, hcx0⟩ := read_act HR1.out i hlt
      have hcd := pw_cell_below HI.out.bel hcd0
      have hcx := pw_cell_below HI.out.bel hcx0
      have HX0 := Lib.hid hcx0
      clear hcd0 hcx0
      generalize l[i].1 = d at hcd
      generalize l[i].2 = x at hcx HX0
      go_upto_if 36 with (fail)
      go_cut [8, 9] (fun v8 v9 wc => ∃ (xs' : List Int) (lost' : Bool), v9 = .bool lost' ∧ xs'.length ≤ i + 1 ∧ Aside0 (St w0 wc g rm xs' lost' v8 xs'))
      case first =>
        cases d with
        | true =>
          go_wp2_with fail
          refine (drainS HI.out (by omega)).mono ?_; rintro e w3 ⟨A1, c1, rfl, hc1, hC1, hI, A2, c2, rfl, hc2, hC2⟩
          have HC1 := Aside0.mk hC1
          have HC2 := Aside0.mk hC2
          have HI3 := Aside0.mk hI
          have d1 : (lost != lost) = false := bne_self_eq_false lost
          clear hC1 hC2 hI HI hcd hcx
          go_wp2_with fail
          refine (same_any xs A1 A2 c1 c2 _ (by omega) HC1.out hc1 HC2.out hc2).mono ?_; rintro e w4 ⟨rfl, m4, rfl⟩
          have HI4 := Aside0.mk (HI3.out.below (pw_below_drewN (Below.refl _ _) m4))
          clear HI3 HC1 HC2
          go_wp2_with fail
          go_meet
          case rel => exact ⟨[], false, rfl, by simp, HI4⟩
        | false =>
          by_cases hlr : (xs.length : Int) < room
          · have hlm : (xs.length : Int) < rm := by rw [HRM.out]; split <;> omega
            go_wp2_with fail
            refine (refS HI.out (by omega) room x).mono ?_; rintro e w3 ⟨v2, rfl, hI⟩
            rw [if_pos hlr] at hI ⊢
            have HI3 := Aside0.mk hI
            have hcx3 := pw_cell_below HI3.out.bel HX0.out
            clear hI HI hcd hcx
            obtain ⟨A3, c3, rfl, hc3, _⟩ := HI3.out.row
            go_wp2_with fail
            refine (putS HI3.out (by omega) x).mono ?_; rintro e w4 ⟨rfl, hI⟩
            rw [if_pos hlm, decide_eq_true hlm, Bool.not_true, Bool.or_false] at hI
            rw [decide_eq_true hlm]
            have HI4 := Aside0.mk hI
            clear hI HI3 hcx3
            cases lost with
            | true =>
              go_wp2_with fail
              go_meet
              case rel => exact ⟨xs ++ [x], true, rfl, by simp; omega, ⟨by have := HI4.out; simp only [List.length_append, List.length_singleton] at this; exact this⟩⟩
            | false =>
              go_wp2_with fail
              go_meet
              case rel => exact ⟨xs ++ [x], false, rfl, by simp; omega, ⟨by have := HI4.out; simp only [List.length_append, List.length_singleton] at this; exact this⟩⟩
          · have hlm : ¬ (xs.length : Int) < rm := by rw [HRM.out]; split <;> omega
            go_wp2_with fail
            refine (refS HI.out (by omega) room x).mono ?_; rintro e w3 ⟨v2, rfl, hI⟩
            rw [if_neg (show ¬ (xs.length : Int) < room by omega)] at hI ⊢
            have HI3 := Aside0.mk hI
            have hcx3 := pw_cell_below HI3.out.bel HX0.out
            clear hI HI hcd hcx
            obtain ⟨A3, c3, rfl, hc3, _⟩ := HI3.out.row
            go_wp2_with fail
            refine (putS HI3.out (by omega) x).mono ?_; rintro e w4 ⟨rfl, hI⟩
            have hlm' : ¬ (xs.length : Int) < rm := by omega
            rw [if_neg hlm', decide_eq_false hlm', Bool.not_false, Bool.or_true] at hI
            rw [decide_eq_false hlm']
            clear hlm'
            have HI4 := Aside0.mk hI
            clear hI HI3 hcx3
            cases lost with
            | true =>
              go_wp2_with fail
              go_meet
              case rel => exact ⟨xs, true, rfl, by omega, HI4⟩
            | false =>
              go_wp2_with fail
              go_meet
              case rel => exact ⟨xs, true, rfl, by omega, HI4⟩
      case rest =>
        obtain ⟨xs', lost', rfl, hxl, HI⟩ := hcut
        have SBc := Aside0.mk (blk_below SB0.out HI.out.bel)
        obtain ⟨wd, rfl⟩ : ∃ wd : World, wd = wc := ⟨_, rfl⟩
        go_wp2_with ((with_reducible refine gate_dst (N := 15) rfl ?_); refine box_event ?hg (N := 15) ?hd (cs := #[.slice none 0 0]) (t := 26) ?hr ?_; (case hd => rfl); (case hg => rfl); (case hr => first | (go_simp; done) | (go_simp; rfl)); intro pb hg w3 hbox hb; have HB3 := Aside0.mk hb; have PB := Lib.hid (show wd.heap.size ≤ pb by rw [hg]; exact Nat.le_refl _); have BK := Aside0.mk hbox; clear hb hbox hg)
        refine (callsIn_wide.1 (all_in Fence.wide 1 trivial rfl (some ⟨g, 0, none⟩) _)).mono ?_; rintro e w4 ⟨rfl, rfl⟩
        obtain ⟨w4, hw4⟩ : ∃ w4, w4 = w3.alloc (.cells #[.pointer (some ⟨g, 0, none⟩)] 24) := ⟨_, rfl⟩
        rw [← hw4]
        have HB4 := Aside0.mk (show Below wd.heap.size wd w4 by rw [hw4]; exact below_alloc HB3.out _)
        have BK4 := Aside0.mk (show w4.heap[pb]? = some (.cells #[.slice none 0 0] 26 (0, 0)) by rw [hw4]; exact blk_alloc BK.out _)
        have BS4 := Aside0.mk (show w4.heap[w3.heap.size]? = some (.cells #[.pointer (some ⟨g, 0, none⟩)] 24 (0, 0)) by rw [hw4]; exact blk_new _ _)
        have SB4 := Aside0.mk (blk_below SBc.out HB4.out)
        clear hw4
        generalize w3.heap.size = Bs at BS4 ⊢
        go_wp2_with fail
        refine (allS HI.out HB4.out PB.out BK4.out (by omega) SB4.out BS4.out (by omega)).mono ?_; rintro e w5 ⟨⟨ev, rfl⟩, hI, ⟨A6, c6, hc0, hcl, hC⟩, hsb5⟩
        have HI5 := Aside0.mk hI
        have hsc := (blk_cell hsb5 0).trans (show _ = some (Value.int .u8 (sn : Int)) from rfl)
        obtain ⟨A5, c5, rfl, hc5, hC5⟩ := hI.row
        clear hI hsb5 HI HB4 PB BK4 SB4 BS4 BK HB3 SBc hcd hcx
        have d1 : ((xs'.length : Int) != (xs'.length : Int)) = false := bne_self_eq_false _
        have d2 : (lost' != lost') = false := bne_self_eq_false lost'
        by_cases hmn : xs'.length ≤ sn + 1
        · rw [List.take_of_length_le hmn] at hc0 hcl hC
          have HSame := Lib.hid (fun m => same_any xs' A6 A5 c6 c5 (w5.drewN m) (by omega) (C_drewN hC m) hcl (C_drewN hC5 m) hc5)
          have hmi : (xs'.length : Int) ≤ (sn : Int) + 1 := by omega
          have hc5i : (xs'.length : Int) ≤ (c5 : Int) := by omega
          clear hC hC5
          go_wp2_with fail
          go_quiet (first
            | (go_at_call 16; exact Calls.quiet_of_same (lenA (HI5.out.at_.drewN _)))
            | (go_at_call 17; exact Calls.quiet_of_same (lostA (HI5.out.at_.drewN _)))
            | (go_at_call 11; exact Calls.quiet_of (HSame.out _)))
          go_wp2_with fail
          go_roundg (l.length - (i + 1))
          case measure => omega
          case rel => exact ⟨i + 1, xs', lost', rfl, by go_num, by omega, rfl, hxl, ⟨HI5.out.below (pw_below_drewN (Below.refl _ _) _)⟩⟩
        · have hq : (xs'.take (sn + 1)).length = sn + 1 := by rw [List.length_take]; omega
          have hC5t := C_take hC5 (sn + 1) (by omega)
          obtain ⟨ts, hts⟩ : ∃ ts, ts = xs'.take (sn + 1) := ⟨_, rfl⟩
          rw [← hts] at hq hC5t hC hcl hc0
          rw [hq] at hc0 hcl hC
          have HSame := Lib.hid (fun m => show Calls Try.prog 11 #[.slice A6 (sn + 1) c6, .slice A5 (sn + 1) c5] (w5.drewN m) fun e w' => e = .returned (.bool true) ∧ ∃ n, w' = (w5.drewN m).drewN n from by
            have := same_any ts A6 A5 c6 c5 (w5.drewN m) (by omega) (by rw [hq]; exact C_drewN hC m) (by omega) (by rw [hq]; exact C_drewN hC5t m) (by omega)
            rw [hq] at this
            exact this)
          have hmi : (sn : Int) + 1 ≤ (xs'.length : Int) := by omega
          have hmi2 : ¬ ((xs'.length : Int) ≤ (sn : Int) + 1) := by omega
          have hc5i : (sn : Int) + 1 ≤ (c5 : Int) := by omega
          clear hC hC5 hC5t hts hq
          go_wp2_with fail
          go_quiet (first
            | (go_at_call 16; exact Calls.quiet_of_same (lenA (HI5.out.at_.drewN _)))
            | (go_at_call 17; exact Calls.quiet_of_same (lostA (HI5.out.at_.drewN _)))
            | (go_at_call 11; exact Calls.quiet_of (HSame.out _)))
          go_wp2_with fail
          go_roundg (l.length - (i + 1))
          case measure => omega
          case rel => exact ⟨i + 1, xs', lost', rfl, by go_num, by omega, rfl, hxl, ⟨HI5.out.below (pw_below_drewN (Below.refl _ _) _)⟩⟩
    · obtain rfl : i = l.length := by omega
      go_wp2_with fail
      go_ret
      exact ⟨rfl, HBW.out.trans (HI.out.bel.mono HSZ.out)⟩
end Go.Proofs.Ytmenjadceliheaa.RingPlays
