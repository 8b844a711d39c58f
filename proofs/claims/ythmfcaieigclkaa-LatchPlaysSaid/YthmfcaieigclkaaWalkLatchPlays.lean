/- The walk of LatchPlays: the Go text returns true for every row of acts. -/
import Derived.Test.YthmfcaieigclkaaPLatchPlaysx1
import Derived.Test.YthmfcaieigclkaaKlass
import Derived.Lib.Hide
import Derived.OpenShut
namespace Go.Proofs.Ythmfcaieigclkaa.LatchPlays
open Go.RowKit Go.Proofs.Ythmfcaieigclkaa.PLatchPlays Go.Proofs.YthmfcaieigclkaaW.PrintWords Go.Proofs.YthmfcaieigclkaaW.PrintLast
theorem awake : doormanlaw13_awake.f = some true := by decide +kernel
theorem awake_any (w : World) : Calls Try.prog 8 #[] w fun e w' => e = .returned (.bool true) ∧ Below w.heap.size w w' := doormanlaw13_awake.calls true w awake
theorem w64 {a : Int} (h0 : -9223372036854775808 ≤ a) (h1 : a ≤ 9223372036854775807) : wrap64 a = a := by unfold wrap64; omega
theorem free (o : Int) (h0 : -1 ≤ o) : latch_Latch_Free.f (o + 1) = some (decide (o < 0)) := by
  unfold latch_Latch_Free.f
  congr 1
  rw [Bool.eq_iff_iff]
  simp
  omega
theorem owner (o : Int) (h0 : -1 ≤ o) (h1 : o ≤ 9223372036854775806) : latch_Latch_Owner.f (o + 1) = some o := by
  unfold latch_Latch_Owner.f
  rw [show o + 1 - 1 = o from by omega, w64 (by omega) (by omega)]
/-- What a giving back comes to, of the code and of the document. -/
theorem gives (o who : Int) (h0 : -1 ≤ o) (h1 : o ≤ 9223372036854775806) : ∃ (o' : Int) (ok : Bool), -1 ≤ o' ∧ o' ≤ 9223372036854775806 ∧
    latch_Latch_Give.f (o + 1) who = some (o' + 1, ok) ∧ doormanref13_Give.f o who = some (o', if ok = true then 1 else 0) := by
  unfold latch_Latch_Give.f doormanref13_Give.f
  rw [free o h0, owner o h0 h1]
  simp only [Option.bind_some]
  by_cases e : 0 ≤ o
  · rw [decide_eq_false (by omega), if_neg (by decide), if_pos e]
    by_cases e2 : o = who
    · rw [if_pos e2, if_pos e2]
      exact ⟨-1, true, by omega, by omega, rfl, rfl⟩
    · rw [if_neg e2, if_neg e2]
      exact ⟨o, false, h0, h1, rfl, rfl⟩
  · rw [decide_eq_true (by omega), if_pos rfl, if_neg e]
    exact ⟨o, false, h0, h1, rfl, rfl⟩
theorem takes (o who : Int) (h0 : -1 ≤ o) (h1 : o ≤ 9223372036854775806) (hw : who ≤ 9223372036854775806) : ∃ (o' : Int) (ok : Bool), -1 ≤ o' ∧ o' ≤ 9223372036854775806 ∧
    latch_Latch_Take.f (o + 1) who = some (o' + 1, ok) ∧ doormanref13_Take.f o who = some (o', if ok = true then 1 else 0) := by
  unfold latch_Latch_Take.f doormanref13_Take.f
  rw [free o h0]
  simp only [Option.bind_some]
  by_cases e : who < 0
  · rw [if_pos e]
    refine ⟨o, false, h0, h1, rfl, ?_⟩
    by_cases e2 : o < 0
    · rw [if_pos e2, if_neg (by omega)]; rfl
    · rw [if_neg e2]; rfl
  · rw [if_neg e]
    by_cases e2 : o < 0
    · rw [decide_eq_true e2, if_pos rfl, if_pos e2, if_pos (by omega), w64 (by omega) (by omega)]
      exact ⟨who, true, by omega, hw, rfl, rfl⟩
    · rw [decide_eq_false e2, if_neg (by decide), if_neg e2]
      exact ⟨o, false, h0, h1, rfl, rfl⟩
theorem free_any (o : Int) (w : World) (h0 : -1 ≤ o) : Calls Try.prog 14 #[.agg #[.int .i64 (o + 1)]] w fun e w' => e = .returned (.bool (decide (o < 0))) ∧ Below w.heap.size w w' := latch_Latch_Free.calls _ _ w (free o h0)
theorem owner_any (o : Int) (w : World) (h0 : -1 ≤ o) (h1 : o ≤ 9223372036854775806) : Calls Try.prog 13 #[.agg #[.int .i64 (o + 1)]] w fun e w' => e = .returned (.int .i64 o) ∧ Below w.heap.size w w' := latch_Latch_Owner.calls _ _ w (owner o h0 h1)
theorem read_at {w : World} {A : Option Addr} {l : List S27} (hr : Kd.C k27 w A l.length l) (i : Nat) (hi : i < l.length) :
    ∃ ad, A = some ad ∧ w.cell? (ad.add (i * 2)) = some (.bool (l.getD i z27).f0) ∧ w.cell? ⟨(ad.add (i * 2)).block, (ad.add (i * 2)).off + 1, none⟩ = some (.int .i64 (l.getD i z27).f1) := by
  obtain ⟨ad, e, h1, h2⟩ := at_T27 hr (i : Int) (by omega) (by omega)
  simp only [Int.toNat_natCast, rd_T27] at h1 h2
  exact ⟨ad, e, h1, h2⟩
def Good (w : World) (gk : Nat) (p : Addr) (x who : Int) (W : World) : Prop :=
  W.heap[gk]? = some (.cells #[.int .i64 x] 25 (0, 0)) ∧ W.cell? p = some (.int .i64 who) ∧ Below w.heap.size w W
theorem good_below {w : World} {gk : Nat} {p : Addr} {x who : Int} {W W' : World} (h : Good w gk p x who W) (hb : Below W.heap.size W W') : Good w gk p x who W' :=
  ⟨blk_below h.1 hb, pw_cell_below hb h.2.1, below_step h.2.2 hb⟩

set_option maxHeartbeats 1000000 in
theorem calls_long (A : Option Addr) (c : Nat) (l : List S27) (w : World) (h : (400 : Int) < l.length) : Calls Try.prog 3 #[.slice A l.length c] w fun e w' => e = .returned (.bool true) ∧ Below w.heap.size w w' := by
  go_enter Try.func3, Try.ntmps3
  go_wp2_with fail
  refine (awake_any _).mono ?_; rintro e w1 ⟨rfl, hb1⟩
  go_wp2_with fail
  refine (awake_any _).mono ?_; rintro e w2 ⟨rfl, hb2⟩
  go_wp2_with fail
  go_ret
  exact ⟨rfl, below_step hb1 hb2⟩

set_option maxHeartbeats 4000000 in
set_option maxRecDepth 100000 in
theorem calls_few (A : Option Addr) (c : Nat) (l : List S27) (w : World) (h : (l.length : Int) ≤ 400) (hr : Kd.C k27 w A l.length l) (hq : ∀ y ∈ l, (Lit.int .i64 y.f1).wf = true) : Calls Try.prog 3 #[.slice A l.length c] w fun e w' => e = .returned (.bool true) ∧ Below w.heap.size w w' := by
  have hu25 := Try.underlying25
  have HQ := Lib.hid hq
  clear hq
  go_enter Try.func3, Try.ntmps3
  go_wp2_with fail
  refine (awake_any _).mono ?_; rintro e w1 ⟨rfl, hb1⟩
  have HB := Aside0.mk hb1
  clear hb1
  go_wp2_with ((with_reducible refine gate_dst (N := 3) rfl ?_); refine box_event ?hg (N := 3) ?hd (cs := #[.int .i64 0]) (t := 25) ?hr ?_; (case hd => rfl); (case hg => rfl); (case hr => first | (go_simp; done) | (go_simp; rfl)); intro gl hg w3 hbox hb; have HB3 := Aside0.mk (below_step HB.out hb); have GL := Aside0.mk (by rw [hg]; exact below_size HB.out : w.heap.size ≤ gl); have BK := Aside0.mk hbox; clear hb hbox hg HB)
  go_loopg [4, 5] (l.length) (fun g v4 v5 wr => ∃ (i : Nat) (o : Int), v5 = .int .i64 i ∧ v4 = .int .i64 o ∧ i ≤ l.length ∧ g = l.length - i ∧ -1 ≤ o ∧ o ≤ 9223372036854775806 ∧ Aside0 (wr.heap[gl]? = some (.cells #[.int .i64 (o + 1)] 25 (0, 0))) ∧ Aside0 (Below w.heap.size w wr))
  case atStart => exact ⟨0, -1, rfl, rfl, by omega, by omega, by omega, by omega, BK, HB3⟩
  case round =>
    clear BK HB3
    obtain ⟨i, o, rfl, rfl, hi, rfl, o0, o1, BK, HB⟩ := hrel
    by_cases hlt : i < l.length
    · obtain ⟨ad, rfl, hg0, hw0⟩ := read_at hr i hlt
      have hwf : (Lit.int .i64 (l.getD i z27).f1).wf = true := HQ.out _ (by rw [List.getD_eq_getElem?_getD, List.getElem?_eq_getElem hlt]; exact List.getElem_mem hlt)
      have hc0 := pw_cell_below HB.out hg0
      have hc1 := pw_cell_below HB.out hw0
      have hnb : (ad.add (i * 2)).block ≠ gl := by have := World.block_lt_of_cell? w _ hg0; have := GL.out; omega
      clear hg0 hw0
      generalize (l.getD i z27).f0 = giv at hc0
      generalize (l.getD i z27).f1 = who at hc1 hwf
      obtain ⟨hwl, hwh⟩ := bounds_i64 hwf
      clear hwf
      by_cases hmx : who = 9223372036854775807
      · subst hmx
        clear HQ
        go_wp2_with fail
        go_ret
        exact ⟨rfl, HB.out⟩
      · have hw1 : who ≤ 9223372036854775806 := by omega
        clear hmx
        cases giv with
        | true =>
          obtain ⟨o', ok, p0, p1, e1, e2⟩ := gives o who o0 o1
          have E1 := Lib.hid e1
          have E2 := Lib.hid e2
          clear e1 e2
          have hz := (blk_cell BK.out 0).trans (show (#[Value.int .i64 (o + 1)])[0]? = some (Value.int .i64 (o + 1)) from rfl)
          have fz := blk_frozen BK.out 0
          go_wp2_with fail
          refine Klass.head 8 #[true, true, true, true, true, true, true, true, false, false, false, false] (Good w gl ⟨(ad.add (i * 2)).block, (ad.add (i * 2)).off + 1, none⟩ (o + 1) who) (by kernel_rfl) (by kernel_rfl) ⟨BK.out, hc1, below_drew HB.out⟩ ?_
          intro T _ F hF0 hback0
          simp only [List.take_succ_cons, List.take_zero]
          have c0 : ∀ x, (F x).cell? ⟨gl, 0, none⟩ = some (.int .i64 (o + 1)) := fun x => (blk_cell (hF0 x).1 0).trans rfl
          have c1 : ∀ x, (F x).cell? ⟨(ad.add (i * 2)).block, (ad.add (i * 2)).off + 1, none⟩ = some (.int .i64 who) := fun x => (hF0 x).2.1
          have hF := Lib.hid hF0
          have hback := Lib.hid hback0
          clear hF0 hback0 hz fz hc0 hc1 BK HB
          repeat (go_big_quiet_step ((go_at_call 9; refine (latch_Latch_Give.calls _ _ _ _ _ E1.out).mono ?_; rintro e wx ⟨rfl, hb⟩; exact ⟨rfl, hback.out _ (good_below (hF.out _) hb)⟩)))
          refine wpQuiet_nil ?_
          intro W9 hw9
          obtain ⟨x9, rfl⟩ := hw9
          obtain ⟨BK9, HC9, HB9⟩ := hF.out x9
          clear c0 c1 hF hback
          generalize F x9 = W9 at BK9 HC9 HB9 ⊢
          refine Klass.take (i := 8) rfl (by kernel_rfl) (by kernel_rfl) (by kernel_rfl) (fun _ _ _ h => h) rfl (fun w => by go_simp; rfl) ?_
          simp only [Act.put, List.setIfInBounds_toArray, List.set_cons_zero, List.set_cons_succ]
          refine Klass.take (i := 9) rfl (by kernel_rfl) (by kernel_rfl) (by kernel_rfl) (fun _ _ _ h => h) rfl (fun w => by go_simp; rfl) ?_
          simp only [Act.put, List.setIfInBounds_toArray, List.set_cons_zero, List.set_cons_succ]
          refine Klass.rest 10 2 rfl (by kernel_rfl) ?_
          simp only [List.drop_succ_cons, List.drop_zero]
          have hz := (blk_cell BK9 0).trans (show (#[Value.int .i64 (o + 1)])[0]? = some (Value.int .i64 (o + 1)) from rfl)
          have fz := blk_frozen BK9 0
          have hcs : (W9.setCell ⟨gl, 0, none⟩ (.int .i64 (o' + 1))).cell? ⟨(ad.add (i * 2)).block, (ad.add (i * 2)).off + 1, none⟩ = some (.int .i64 who) := (World.cell?_setCell_other _ _ _ _ (fun e => hnb (Addr.mk.inj e).1.symm)).trans HC9
          have BK := Aside0.mk (blk_put (cs' := #[.int .i64 (o' + 1)]) BK9 0 (.int .i64 (o' + 1)) rfl)
          have HB := Aside0.mk (below_set (v := .int .i64 (o' + 1)) (j := 0) HB9 GL.out)
          clear BK9 HB9 HC9
          go_wp2_with fail
          refine (doormanref13_Give.calls _ _ _ _ _ E2.out).mono ?_; rintro e wx ⟨rfl, hd⟩
          have BK2 := Aside0.mk (blk_below BK.out hd.below)
          have HB2 := Aside0.mk (below_step HB.out hd.below)
          clear hcs hz fz BK HB hd E1 E2 HQ
          have hz := (blk_cell BK2.out 0).trans (show (#[Value.int .i64 (o' + 1)])[0]? = some (Value.int .i64 (o' + 1)) from rfl)
          cases ok
          all_goals
            go_wp2_with fail
            refine (owner_any o' _ p0 p1).mono ?_; rintro e wy ⟨rfl, hb⟩
            have BK3 := Aside0.mk (blk_below BK2.out hb)
            have HB3 := Aside0.mk (below_step HB2.out hb)
            have hz3 := (blk_cell BK3.out 0).trans (show (#[Value.int .i64 (o' + 1)])[0]? = some (Value.int .i64 (o' + 1)) from rfl)
            clear hz BK2 HB2 hb
            go_wp2_with fail
            refine (free_any o' _ p0).mono ?_; rintro e wz ⟨rfl, hb⟩
            have BK4 := Aside0.mk (blk_below BK3.out hb)
            have HB4 := Aside0.mk (below_step HB3.out hb)
            clear hz3 BK3 HB3 hb
            go_wp2_with fail
            go_roundg (l.length - (i + 1))
            case measure => omega
            case rel => exact ⟨i + 1, o', by go_num, rfl, by omega, rfl, p0, p1, BK4, HB4⟩
        | false =>
          obtain ⟨o', ok, p0, p1, e1, e2⟩ := takes o who o0 o1 hw1
          have E1 := Lib.hid e1
          have E2 := Lib.hid e2
          clear e1 e2
          have hz := (blk_cell BK.out 0).trans (show (#[Value.int .i64 (o + 1)])[0]? = some (Value.int .i64 (o + 1)) from rfl)
          have fz := blk_frozen BK.out 0
          go_wp2_with fail
          refine Klass.head 8 #[true, true, true, true, true, true, true, true, false, false, false, false] (Good w gl ⟨(ad.add (i * 2)).block, (ad.add (i * 2)).off + 1, none⟩ (o + 1) who) (by kernel_rfl) (by kernel_rfl) ⟨BK.out, hc1, below_drew HB.out⟩ ?_
          intro T _ F hF0 hback0
          simp only [List.take_succ_cons, List.take_zero]
          have c0 : ∀ x, (F x).cell? ⟨gl, 0, none⟩ = some (.int .i64 (o + 1)) := fun x => (blk_cell (hF0 x).1 0).trans rfl
          have c1 : ∀ x, (F x).cell? ⟨(ad.add (i * 2)).block, (ad.add (i * 2)).off + 1, none⟩ = some (.int .i64 who) := fun x => (hF0 x).2.1
          have hF := Lib.hid hF0
          have hback := Lib.hid hback0
          clear hF0 hback0 hz fz hc0 hc1 BK HB
          repeat (go_big_quiet_step ((go_at_call 11; refine (latch_Latch_Take.calls _ _ _ _ _ E1.out).mono ?_; rintro e wx ⟨rfl, hb⟩; exact ⟨rfl, hback.out _ (good_below (hF.out _) hb)⟩)))
          refine wpQuiet_nil ?_
          intro W9 hw9
          obtain ⟨x9, rfl⟩ := hw9
          obtain ⟨BK9, HC9, HB9⟩ := hF.out x9
          clear c0 c1 hF hback
          generalize F x9 = W9 at BK9 HC9 HB9 ⊢
          refine Klass.take (i := 8) rfl (by kernel_rfl) (by kernel_rfl) (by kernel_rfl) (fun _ _ _ h => h) rfl (fun w => by go_simp; rfl) ?_
          simp only [Act.put, List.setIfInBounds_toArray, List.set_cons_zero, List.set_cons_succ]
          refine Klass.take (i := 9) rfl (by kernel_rfl) (by kernel_rfl) (by kernel_rfl) (fun _ _ _ h => h) rfl (fun w => by go_simp; rfl) ?_
          simp only [Act.put, List.setIfInBounds_toArray, List.set_cons_zero, List.set_cons_succ]
          refine Klass.rest 10 2 rfl (by kernel_rfl) ?_
          simp only [List.drop_succ_cons, List.drop_zero]
          have hz := (blk_cell BK9 0).trans (show (#[Value.int .i64 (o + 1)])[0]? = some (Value.int .i64 (o + 1)) from rfl)
          have fz := blk_frozen BK9 0
          have hcs : (W9.setCell ⟨gl, 0, none⟩ (.int .i64 (o' + 1))).cell? ⟨(ad.add (i * 2)).block, (ad.add (i * 2)).off + 1, none⟩ = some (.int .i64 who) := (World.cell?_setCell_other _ _ _ _ (fun e => hnb (Addr.mk.inj e).1.symm)).trans HC9
          have BK := Aside0.mk (blk_put (cs' := #[.int .i64 (o' + 1)]) BK9 0 (.int .i64 (o' + 1)) rfl)
          have HB := Aside0.mk (below_set (v := .int .i64 (o' + 1)) (j := 0) HB9 GL.out)
          clear BK9 HB9 HC9
          go_wp2_with fail
          refine (doormanref13_Take.calls _ _ _ _ _ E2.out).mono ?_; rintro e wx ⟨rfl, hd⟩
          have BK2 := Aside0.mk (blk_below BK.out hd.below)
          have HB2 := Aside0.mk (below_step HB.out hd.below)
          clear hcs hz fz BK HB hd E1 E2 HQ
          have hz := (blk_cell BK2.out 0).trans (show (#[Value.int .i64 (o' + 1)])[0]? = some (Value.int .i64 (o' + 1)) from rfl)
          cases ok
          all_goals
            go_wp2_with fail
            refine (owner_any o' _ p0 p1).mono ?_; rintro e wy ⟨rfl, hb⟩
            have BK3 := Aside0.mk (blk_below BK2.out hb)
            have HB3 := Aside0.mk (below_step HB2.out hb)
            have hz3 := (blk_cell BK3.out 0).trans (show (#[Value.int .i64 (o' + 1)])[0]? = some (Value.int .i64 (o' + 1)) from rfl)
            clear hz BK2 HB2 hb
            go_wp2_with fail
            refine (free_any o' _ p0).mono ?_; rintro e wz ⟨rfl, hb⟩
            have BK4 := Aside0.mk (blk_below BK3.out hb)
            have HB4 := Aside0.mk (below_step HB3.out hb)
            clear hz3 BK3 HB3 hb
            go_wp2_with fail
            go_roundg (l.length - (i + 1))
            case measure => omega
            case rel => exact ⟨i + 1, o', by go_num, rfl, by omega, rfl, p0, p1, BK4, HB4⟩
    · go_wp2_with fail
      go_ret
      exact ⟨rfl, HB.out⟩
theorem walk (A : Option Addr) (c : Nat) (l : List S27) (w : World) (hr : Kd.C k27 w A l.length l) (_ : l.length ≤ c) (hq : ∀ y ∈ l, (Lit.int .i64 y.f1).wf = true) :
    Calls Try.prog 3 #[.slice A l.length c] w fun e w' => e = .returned (.bool true) ∧ Below w.heap.size w w' := by
  by_cases h : (400 : Int) < l.length
  · exact calls_long A c l w h
  · exact calls_few A c l w (by omega) hr hq
end Go.Proofs.Ythmfcaieigclkaa.LatchPlays
