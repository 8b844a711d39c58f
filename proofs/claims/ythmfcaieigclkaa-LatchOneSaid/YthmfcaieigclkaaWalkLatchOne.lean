/- The walk of LatchOne: the Go text returns true for every row of acts. -/
import Derived.Test.YthmfcaieigclkaaPLatchOnex1
import Derived.Test.YthmfcaieigclkaaKlass
import Derived.Deep.RegionHeld3
import Derived.Lib.Hide
import Derived.OpenShut
namespace Go.Proofs.Ythmfcaieigclkaa.LatchOne
open Go.RowKit Go.Proofs.Ythmfcaieigclkaa.PLatchOne Go.Proofs.YthmfcaieigclkaaW.PrintWords Go.Proofs.YthmfcaieigclkaaW.PrintLast
theorem awake : doormanlaw13_awake.f = some true := by decide +kernel
theorem awake_any (w : World) : Calls Try.prog 8 #[] w fun e w' => e = .returned (.bool true) ∧ Below w.heap.size w w' := doormanlaw13_awake.calls true w awake
theorem w64 {a : Int} (h0 : -9223372036854775808 ≤ a) (h1 : a ≤ 9223372036854775807) : wrap64 a = a := by unfold wrap64; omega
theorem free (o : Int) (h0 : -1 ≤ o) : latch_Latch_Free.f (o + 1) = some (decide (o < 0)) := by
  unfold latch_Latch_Free.f
  congr 1
  rw [Bool.eq_iff_iff]
  simp
  omega
theorem owner (o : Int) (h0 : -1 ≤ o) (h1 : o ≤ 9223372036854775806) : latch_Latch_Owner.f (o + 1) = some o := by
  unfold latch_Latch_Owner.f
  rw [show o + 1 - 1 = o from by omega, w64 (by omega) (by omega)]
/-- What a giving back comes to. -/
theorem gives (o who : Int) (h0 : -1 ≤ o) (h1 : o ≤ 9223372036854775806) : latch_Latch_Give.f (o + 1) who = some ((if 0 ≤ o ∧ o = who then -1 else o) + 1, decide (0 ≤ o ∧ o = who)) := by
  unfold latch_Latch_Give.f
  rw [free o h0, owner o h0 h1]
  simp only [Option.bind_some]
  by_cases e : 0 ≤ o
  · rw [decide_eq_false (by omega), if_neg (by decide)]
    by_cases e2 : o = who
    · rw [if_pos e2, if_pos ⟨e, e2⟩, decide_eq_true ⟨e, e2⟩]; rfl
    · rw [if_neg e2, if_neg (fun q => e2 q.2), decide_eq_false (fun q => e2 q.2)]
  · rw [decide_eq_true (by omega), if_pos rfl, if_neg (fun q => e q.1), decide_eq_false (fun q => e q.1)]
theorem takes (o who : Int) (h0 : -1 ≤ o) (hw : who ≤ 9223372036854775806) : latch_Latch_Take.f (o + 1) who = some ((if o < 0 ∧ 0 ≤ who then who else o) + 1, decide (o < 0 ∧ 0 ≤ who)) := by
  unfold latch_Latch_Take.f
  rw [free o h0]
  simp only [Option.bind_some]
  by_cases e : who < 0
  · rw [if_pos e, if_neg (by omega), decide_eq_false (by omega)]
  · rw [if_neg e]
    by_cases e2 : o < 0
    · rw [decide_eq_true e2, if_pos rfl, if_pos ⟨e2, by omega⟩, decide_eq_true ⟨e2, by omega⟩, w64 (by omega) (by omega)]
    · rw [decide_eq_false e2, if_neg (by decide), if_neg (by omega), decide_eq_false (by omega)]
theorem free_any (o : Int) (w : World) (h0 : -1 ≤ o) : Calls Try.prog 14 #[.agg #[.int .i64 (o + 1)]] w fun e w' => e = .returned (.bool (decide (o < 0))) ∧ Below w.heap.size w w' := latch_Latch_Free.calls _ _ w (free o h0)
theorem owner_any (o : Int) (w : World) (h0 : -1 ≤ o) (h1 : o ≤ 9223372036854775806) : Calls Try.prog 13 #[.agg #[.int .i64 (o + 1)]] w fun e w' => e = .returned (.int .i64 o) ∧ Below w.heap.size w w' := latch_Latch_Owner.calls _ _ w (owner o h0 h1)
theorem read_at {w : World} {A : Option Addr} {l : List S27} (hr : Kd.C k27 w A l.length l) (i : Nat) (hi : i < l.length) :
    ∃ ad, A = some ad ∧ w.cell? (ad.add (i * 2)) = some (.bool (l.getD i z27).f0) ∧ w.cell? ⟨(ad.add (i * 2)).block, (ad.add (i * 2)).off + 1, none⟩ = some (.int .i64 (l.getD i z27).f1) := by
  obtain ⟨ad, e, h1, h2⟩ := at_T27 hr (i : Int) (by omega) (by omega)
  simp only [Int.toNat_natCast, rd_T27] at h1 h2
  exact ⟨ad, e, h1, h2⟩
def Good (w : World) (gk : Nat) (p : Addr) (x who : Int) (W : World) : Prop :=
  W.heap[gk]? = some (.cells #[.int .i64 x] 25 (0, 0)) ∧ W.cell? p = some (.int .i64 who) ∧ Below w.heap.size w W
theorem good_below {w : World} {gk : Nat} {p : Addr} {x who : Int} {W W' : World} (h : Good w gk p x who W) (hb : Below W.heap.size W W') : Good w gk p x who W' :=
  ⟨blk_below h.1 hb, pw_cell_below hb h.2.1, below_step h.2.2 hb⟩

/-- What one act comes to: nothing; or it succeeds, and then it fits who has the lock. -/
def Res (giv : Bool) (o who : Int) (ok : Bool) (nx : Int) : Prop :=
  (ok = false ∧ nx = o) ∨ (ok = true ∧ giv = decide (0 ≤ o) ∧ (0 ≤ o → o = who ∧ nx = -1) ∧ (o < 0 → nx = who ∧ 0 ≤ who))
set_option maxHeartbeats 1000000 in
theorem calls_long (A : Option Addr) (c : Nat) (l : List S27) (w : World) (h : (400 : Int) < l.length) : Calls Try.prog 4 #[.slice A l.length c] w fun e w' => e = .returned (.bool true) ∧ Below w.heap.size w w' := by
  go_enter Try.func4, Try.ntmps4
  go_wp2_with fail
  refine (awake_any _).mono ?_; rintro e w1 ⟨rfl, hb1⟩
  go_wp2_with fail
  refine (awake_any _).mono ?_; rintro e w2 ⟨rfl, hb2⟩
  go_wp2_with fail
  go_ret
  exact ⟨rfl, below_step hb1 hb2⟩


set_option maxHeartbeats 4000000 in
set_option maxRecDepth 100000 in
theorem calls_few (A : Option Addr) (c : Nat) (l : List S27) (w : World) (h : (l.length : Int) ≤ 400) (hr : Kd.C k27 w A l.length l) (hq : ∀ y ∈ l, (Lit.int .i64 y.f1).wf = true) : Calls Try.prog 4 #[.slice A l.length c] w fun e w' => e = .returned (.bool true) ∧ Below w.heap.size w w' := by
  have hu25 := Try.underlying25
  have HQ := Lib.hid hq
  clear hq
  go_enter Try.func4, Try.ntmps4
  go_wp2_with fail
  refine (awake_any _).mono ?_; rintro e w1 ⟨rfl, hb1⟩
  have HB := Aside0.mk hb1
  clear hb1
  go_wp2_with ((with_reducible refine gate_dst (N := 3) rfl ?_); refine box_event ?hg (N := 3) ?hd (cs := #[.int .i64 0]) (t := 25) ?hr ?_; (case hd => rfl); (case hg => rfl); (case hr => first | (go_simp; done) | (go_simp; rfl)); intro gl hg w3 hbox hb; have HB3 := Aside0.mk (below_step HB.out hb); have GL := Aside0.mk (by rw [hg]; exact below_size HB.out : w.heap.size ≤ gl); have BK := Aside0.mk hbox; clear hb hbox hg HB)
  go_loopg [4, 5, 6] (l.length) (fun g v4 v5 v6 wr => ∃ (i : Nat) (o z : Int) (has : Bool), v6 = .int .i64 i ∧ v4 = .bool has ∧ v5 = .int .i64 z ∧ i ≤ l.length ∧ g = l.length - i ∧ -1 ≤ o ∧ o ≤ 9223372036854775806 ∧ Aside0 (has = decide (0 ≤ o) ∧ (0 ≤ o → z = o)) ∧ Aside0 (wr.heap[gl]? = some (.cells #[.int .i64 (o + 1)] 25 (0, 0))) ∧ Aside0 (Below w.heap.size w wr))
  case atStart => exact ⟨0, -1, 0, false, rfl, rfl, rfl, by omega, by omega, by omega, by omega, ⟨by decide, fun h => by omega⟩, ⟨by simpa using BK.out⟩, HB3⟩
  case round =>
    clear BK HB3
    obtain ⟨i, o, z, has, rfl, rfl, rfl, hi, rfl, o0, o1, HZ, BK, HB⟩ := hrel
    by_cases hlt : i < l.length
    · obtain ⟨ad, rfl, hg0, hw0⟩ := read_at hr i hlt
      have hwf : (Lit.int .i64 (l.getD i z27).f1).wf = true := HQ.out _ (by rw [List.getD_eq_getElem?_getD, List.getElem?_eq_getElem hlt]; exact List.getElem_mem hlt)
      have hc0 := pw_cell_below HB.out hg0
      have hc1 := pw_cell_below HB.out hw0
      have hnb : (ad.add (i * 2)).block ≠ gl := by have := World.block_lt_of_cell? w _ hg0; have := GL.out; omega
      generalize (l.getD i z27).f0 = giv at hc0 hg0
      generalize (l.getD i z27).f1 = who at hc1 hwf hw0
      have HG0 := Aside0.mk hg0
      have HW0 := Aside0.mk hw0
      clear hg0 hw0
      obtain ⟨hwl, hwh⟩ := bounds_i64 hwf
      clear hwf
      by_cases hmx : who = 9223372036854775807
      · subst hmx
        clear HQ
        go_wp2_with fail
        go_ret
        exact ⟨rfl, HB.out⟩
      · have hw1 : who ≤ 9223372036854775806 := by omega
        clear hmx
        have hz := (blk_cell BK.out 0).trans (show (#[Value.int .i64 (o + 1)])[0]? = some (Value.int .i64 (o + 1)) from rfl)
        have fz := blk_frozen BK.out 0
        obtain ⟨t, tk, ht0, ht1, hT, hTf⟩ : ∃ (t : Int) (tk : Bool), -1 ≤ t ∧ t ≤ 9223372036854775806 ∧ latch_Latch_Take.f (o + 1) who = some (t + 1, tk) ∧ ((tk = true ∧ o < 0 ∧ 0 ≤ who ∧ t = who) ∨ (tk = false ∧ ¬ (o < 0 ∧ 0 ≤ who) ∧ t = o)) := by
          by_cases e : o < 0 ∧ 0 ≤ who
          · exact ⟨who, true, by omega, hw1, by rw [takes o who o0 hw1, if_pos e, decide_eq_true e], .inl ⟨rfl, e.1, e.2, rfl⟩⟩
          · exact ⟨o, false, o0, o1, by rw [takes o who o0 hw1, if_neg e, decide_eq_false e], .inr ⟨rfl, e, rfl⟩⟩
        have ET := Lib.hid hT
        have HTF := Lib.hid hTf
        clear hT hTf
        go_upto_region 10 with (fail)
        go_cut [7, 8] (fun v7 v8 wc => ∃ gn : Nat, v7 = .pointer (some ⟨gn, 0, none⟩) ∧ v8 = .bool tk ∧ Aside0 (w.heap.size ≤ gn ∧ gn ≠ gl) ∧ Aside0 (wc.heap[gn]? = some (.cells #[.int .i64 (t + 1)] 25 (0, 0))) ∧ Aside0 (Good w gl ⟨(ad.add (i * 2)).block, (ad.add (i * 2)).off + 1, none⟩ (o + 1) who wc))
        case first =>
          have N1 := World.new_ne wr _ hc1
          have N2 := World.new_ne wr _ hz
          go_region_held3 (fun w' => w'.cell? ⟨gl, 0, none⟩ = some (.int .i64 (o + 1)) ∧ w'.cell? ⟨(ad.add (i * 2)).block, (ad.add (i * 2)).off + 1, none⟩ = some (.int .i64 who))
            (first | exact kk | exact ⟨pw_cell_below (below_alloc (Below.refl _ _) _) kk.1, pw_cell_below (below_alloc (Below.refl _ _) _) kk.2⟩ | exact ⟨(World.cell?_setCell_far _ _ _ _ N2).trans kk.1, (World.cell?_setCell_far _ _ _ _ N1).trans kk.2⟩ | go_keep)
            ((go_at_call 11; refine (latch_Latch_Take.calls _ _ _ _ _ ET.out).mono ?_; rintro e wx ⟨rfl, hb⟩; have kk : wx.cell? ⟨gl, 0, none⟩ = some (.int .i64 (o + 1)) ∧ wx.cell? ⟨(ad.add (i * 2)).block, (ad.add (i * 2)).off + 1, none⟩ = some (.int .i64 who) := (by go_split_ands; exact ⟨pw_cell_below hb (by assumption), pw_cell_below hb (by assumption)⟩); try (have kb : wx.heap[wr.heap.size]? = some (.cells #[.int .i64 0] 25 (0, 0)) := blk_below (blk_new wr.drew _) hb; have ka : wx.cell? ⟨wr.heap.size, 0, none⟩ = some (.int .i64 0) := (blk_cell kb 0).trans rfl; have kf := blk_frozen kb 0)))
          · go_wp2_with fail
            go_meet
            case rel =>
              have HBx := below_step (below_drew HB.out) hb
              have BKx := blk_below (blk_drew BK.out) hb
              exact ⟨wx.heap.size, rfl, rfl, ⟨HBx.size, Nat.ne_of_gt (blk_lt BKx)⟩, ⟨blk_new wx _⟩, ⟨blk_alloc BKx _, pw_cell_below (below_alloc (Below.refl _ _) _) kk.2, below_alloc HBx _⟩⟩
          · go_wp2_with fail
            go_meet
            case rel =>
              have HBx := below_step (below_alloc (below_drew HB.out) _) hb
              have BKx := blk_below (blk_alloc (blk_drew BK.out) _) hb
              have hn := Nat.ne_of_gt (blk_lt BK.out)
              exact ⟨wr.heap.size, rfl, rfl, ⟨below_size HB.out, hn⟩, ⟨blk_put kb 0 _ rfl⟩, ⟨blk_far BKx hn.symm _, (World.cell?_setCell_far _ _ _ _ N1).trans kk.2, below_set HBx (below_size HB.out)⟩⟩
        case rest =>
          obtain ⟨gn, rfl, rfl, HG, BN, GD⟩ := hcut
          have hc0' := pw_cell_below GD.out.2.2 HG0.out
          have hc1' := pw_cell_below GD.out.2.2 HW0.out
          have hz' := (blk_cell GD.out.1 0).trans (show (#[Value.int .i64 (o + 1)])[0]? = some (Value.int .i64 (o + 1)) from rfl)
          have fz' := blk_frozen GD.out.1 0
          have hn' := (blk_cell BN.out 0).trans (show (#[Value.int .i64 (t + 1)])[0]? = some (Value.int .i64 (t + 1)) from rfl)
          have fn' := blk_frozen BN.out 0
          clear hc0 hc1 hz fz BK HB
          go_upto_if 43 with (fail)
          go_cut [8] (fun v8 wd => ∃ (ok : Bool) (nx : Int), v8 = .bool ok ∧ Aside0 (-1 ≤ nx ∧ nx ≤ 9223372036854775806 ∧ Res giv o who ok nx) ∧ Aside0 (wd.heap[gn]? = some (.cells #[.int .i64 (nx + 1)] 25 (0, 0))) ∧ Aside0 (wd.heap[gl]? = some (.cells #[.int .i64 (o + 1)] 25 (0, 0))) ∧ Aside0 (Below w.heap.size w wd))
          case first =>
            cases giv with
            | true =>
              obtain ⟨s, sk, hs0, hs1, hS, hSf⟩ : ∃ (s : Int) (sk : Bool), -1 ≤ s ∧ s ≤ 9223372036854775806 ∧ latch_Latch_Give.f (o + 1) who = some (s + 1, sk) ∧ Res true o who sk s := by
                by_cases e : 0 ≤ o ∧ o = who
                · exact ⟨-1, true, by omega, by omega, by rw [gives o who o0 o1, if_pos e, decide_eq_true e], .inr ⟨rfl, (decide_eq_true e.1).symm, fun _ => ⟨e.2, rfl⟩, fun h => by omega⟩⟩
                · exact ⟨o, false, o0, o1, by rw [gives o who o0 o1, if_neg e, decide_eq_false e], .inl ⟨rfl, rfl⟩⟩
              have ES := Lib.hid hS
              have HSF := Aside0.mk hSf
              clear hS hSf
              go_wp2_with fail
              refine Klass.head 8 #[true, true, true, true, true, true, true, true, false, false, false, false] (fun W => Good w gl ⟨(ad.add (i * 2)).block, (ad.add (i * 2)).off + 1, none⟩ (o + 1) who W ∧ W.heap[gn]? = some (.cells #[.int .i64 (t + 1)] 25 (0, 0))) (by kernel_rfl) (by kernel_rfl) ⟨⟨GD.out.1, hc1', below_drew GD.out.2.2⟩, BN.out⟩ ?_
              intro T _ F hF0 hback0
              simp only [List.take_succ_cons, List.take_zero]
              have c0 : ∀ x, (F x).cell? ⟨gl, 0, none⟩ = some (.int .i64 (o + 1)) := fun x => (blk_cell (hF0 x).1.1 0).trans rfl
              have c1 : ∀ x, (F x).cell? ⟨(ad.add (i * 2)).block, (ad.add (i * 2)).off + 1, none⟩ = some (.int .i64 who) := fun x => (hF0 x).1.2.1
              have hF := Lib.hid hF0
              have hback := Lib.hid hback0
              clear hF0 hback0 hz' fz' hn' fn' hc0' hc1' BN GD
              repeat (go_big_quiet_step ((go_at_call 9; refine (latch_Latch_Give.calls _ _ _ _ _ ES.out).mono ?_; rintro e wx ⟨rfl, hb⟩; exact ⟨rfl, hback.out _ ⟨good_below (hF.out _).1 hb, blk_below (hF.out _).2 hb⟩⟩)))
              refine wpQuiet_nil ?_
              intro W9 hw9
              obtain ⟨x9, rfl⟩ := hw9
              obtain ⟨⟨BK9, HC9, HB9⟩, BN9⟩ := hF.out x9
              clear c0 c1 hF hback
              generalize F x9 = W9 at BK9 HC9 HB9 BN9 ⊢
              refine Klass.take (i := 8) rfl (by kernel_rfl) (by kernel_rfl) (by kernel_rfl) (fun _ _ _ h => h) rfl (fun w => by go_simp; rfl) ?_
              simp only [Act.put, List.setIfInBounds_toArray, List.set_cons_zero, List.set_cons_succ]
              refine Klass.take (i := 9) rfl (by kernel_rfl) (by kernel_rfl) (by kernel_rfl) (fun _ _ _ h => h) rfl (fun w => by go_simp; rfl) ?_
              simp only [Act.put, List.setIfInBounds_toArray, List.set_cons_zero, List.set_cons_succ]
              refine Klass.rest 10 2 rfl (by kernel_rfl) ?_
              simp only [List.drop_succ_cons, List.drop_zero]
              have hz := (blk_cell BN9 0).trans (show (#[Value.int .i64 (t + 1)])[0]? = some (Value.int .i64 (t + 1)) from rfl)
              have fz := blk_frozen BN9 0
              have BN := Aside0.mk (blk_put (cs' := #[.int .i64 (s + 1)]) BN9 0 (.int .i64 (s + 1)) rfl)
              have BK := Aside0.mk (blk_far (p := ⟨gn, 0, none⟩) BK9 (fun e => HG.out.2 e.symm) (.int .i64 (s + 1)))
              have HB := Aside0.mk (below_set (v := .int .i64 (s + 1)) (j := 0) HB9 HG.out.1)
              clear BK9 HB9 HC9 BN9
              go_wp2_with fail
              go_meet
              case rel => exact ⟨sk, s, rfl, ⟨hs0, hs1, HSF.out⟩, BN, BK, HB⟩
            | false =>
              go_wp2_with fail
              go_meet
              case rel =>
                refine ⟨tk, t, rfl, ⟨ht0, ht1, ?_⟩, BN, ⟨GD.out.1⟩, ⟨GD.out.2.2⟩⟩
                rcases HTF.out with ⟨e1, e2, e3, e4⟩ | ⟨e1, _, e3⟩
                · exact .inr ⟨e1, (decide_eq_false (by omega)).symm, fun h => by omega, fun _ => ⟨e4, e3⟩⟩
                · exact .inl ⟨e1, e3⟩
          case rest =>
            obtain ⟨ok, nx, rfl, HR, BN2, BK2, HB2⟩ := hcut
            obtain ⟨nx0, nx1, hres⟩ := HR.out
            clear HR HTF ET BN GD hz' fz' hn' fn' hc0' hc1'
            have hc0 := pw_cell_below HB2.out HG0.out
            have hc1 := pw_cell_below HB2.out HW0.out
            have hz := (blk_cell BK2.out 0).trans (show (#[Value.int .i64 (o + 1)])[0]? = some (Value.int .i64 (o + 1)) from rfl)
            have fz := blk_frozen BK2.out 0
            have hn := (blk_cell BN2.out 0).trans (show (#[Value.int .i64 (nx + 1)])[0]? = some (Value.int .i64 (nx + 1)) from rfl)
            have hne := HG.out.2
            rcases hres with ⟨rfl, hno⟩ | ⟨rfl, hgiv, hr1, hr2⟩
            · rw [hno] at BN2 hn
              clear hno
              go_wp2_with fail
              refine Klass.region (fun W => W.heap[gn]? = some (.cells #[.int .i64 (o + 1)] 25 (0, 0)) ∧ W.heap[gl]? = some (.cells #[.int .i64 (o + 1)] 25 (0, 0)) ∧ Below w.heap.size w W) (by kernel_rfl) (by kernel_rfl) ⟨BN2.out, BK2.out, below_drew HB2.out⟩ ?_
              intro T _ F hF0 hback0
              have d0 : ∀ x, (F x).cell? ⟨gn, 0, none⟩ = some (.int .i64 (o + 1)) := fun x => (blk_cell (hF0 x).1 0).trans rfl
              have d1 : ∀ x, (F x).cell? ⟨gl, 0, none⟩ = some (.int .i64 (o + 1)) := fun x => (blk_cell (hF0 x).2.1 0).trans rfl
              have hF := Lib.hid hF0
              have hback := Lib.hid hback0
              clear hF0 hback0 hz fz hn hc0 hc1 BN2 BK2 HB2
              repeat (go_big_quiet_step ((go_at_call 13; refine (owner_any o _ o0 o1).mono ?_; rintro e wx ⟨rfl, hb⟩; exact ⟨rfl, hback.out _ ⟨blk_below (hF.out _).1 hb, blk_below (hF.out _).2.1 hb, below_step (hF.out _).2.2 hb⟩⟩)))
              refine wpQuiet_nil ?_
              intro W9 hw9
              obtain ⟨x9, rfl⟩ := hw9
              obtain ⟨BN9, BK9, HB9⟩ := hF.out x9
              clear d0 d1 hF hback
              generalize F x9 = W9 at BK9 HB9 BN9 ⊢
              have hc0 := pw_cell_below HB9 HG0.out
              have hc1 := pw_cell_below HB9 HW0.out
              have hz := (blk_cell BK9 0).trans (show (#[Value.int .i64 (o + 1)])[0]? = some (Value.int .i64 (o + 1)) from rfl)
              have fz := blk_frozen BK9 0
              have hn := (blk_cell BN9 0).trans (show (#[Value.int .i64 (o + 1)])[0]? = some (Value.int .i64 (o + 1)) from rfl)
              have BK := Aside0.mk (blk_put (cs' := #[.int .i64 (o + 1)]) BK9 0 (.int .i64 (o + 1)) rfl)
              have HB := Aside0.mk (below_set (v := .int .i64 (o + 1)) (j := 0) HB9 GL.out)
              clear BK9 HB9 BN9
              go_wp2_with fail
              go_roundg (l.length - (i + 1))
              case measure => omega
              case rel => exact ⟨i + 1, o, z, has, by go_num, rfl, rfl, by omega, rfl, o0, o1, HZ, BK, HB⟩
            · obtain ⟨hh, hzo⟩ := HZ.out
              have hng : (¬ 0 ≤ o) → o < 0 := by omega
              by_cases ho : 0 ≤ o
              · obtain ⟨hr3, hr4⟩ := hr1 ho
                rw [decide_eq_true ho] at hh hgiv
                have hzz := (hzo ho).trans hr3
                subst hh hgiv hzz
                have HN := Lib.hid hr4
                clear hr4 hr3 hr1 hr2 hzo HZ hng
                go_wp2_with fail
                refine Klass.region (fun W => W.heap[gn]? = some (.cells #[.int .i64 (nx + 1)] 25 (0, 0)) ∧ W.heap[gl]? = some (.cells #[.int .i64 (o + 1)] 25 (0, 0)) ∧ Below w.heap.size w W) (by kernel_rfl) (by kernel_rfl) ⟨BN2.out, BK2.out, below_drew HB2.out⟩ ?_
                intro T _ F hF0 hback0
                have d0 : ∀ x, (F x).cell? ⟨gn, 0, none⟩ = some (.int .i64 (nx + 1)) := fun x => (blk_cell (hF0 x).1 0).trans rfl
                have d1 : ∀ x, (F x).cell? ⟨gl, 0, none⟩ = some (.int .i64 (o + 1)) := fun x => (blk_cell (hF0 x).2.1 0).trans rfl
                have hF := Lib.hid hF0
                have hback := Lib.hid hback0
                clear hF0 hback0 hz fz hn hc0 hc1 BN2 BK2 HB2
                repeat (go_big_quiet_step (fail))
                refine wpQuiet_nil ?_
                intro W9 hw9
                obtain ⟨x9, rfl⟩ := hw9
                obtain ⟨BN9, BK9, HB9⟩ := hF.out x9
                clear d0 d1 hF hback
                generalize F x9 = W9 at BK9 HB9 BN9 ⊢
                have hc0 := pw_cell_below HB9 HG0.out
                have hc1 := pw_cell_below HB9 HW0.out
                have hz := (blk_cell BK9 0).trans (show (#[Value.int .i64 (o + 1)])[0]? = some (Value.int .i64 (o + 1)) from rfl)
                have fz := blk_frozen BK9 0
                have hn := (blk_cell BN9 0).trans (show (#[Value.int .i64 (nx + 1)])[0]? = some (Value.int .i64 (nx + 1)) from rfl)
                have BK := Aside0.mk (blk_put (cs' := #[.int .i64 (nx + 1)]) BK9 0 (.int .i64 (nx + 1)) rfl)
                have HB := Aside0.mk (below_set (v := .int .i64 (nx + 1)) (j := 0) HB9 GL.out)
                have HBq := Aside0.mk HB9
                clear BK9 HB9 BN9
                go_wp2_with fail
                go_quiet (fail)
                go_wp2_with fail
                go_roundg (l.length - (i + 1))
                case measure => omega
                case rel => exact ⟨i + 1, nx, z, false, by go_num, rfl, rfl, by omega, rfl, nx0, nx1, ⟨(decide_eq_false (by have := HN.out; omega)).symm, fun h => by have := HN.out; omega⟩, BK, ⟨below_set (pw_below_drewN HBq.out nq) GL.out⟩⟩
              · obtain ⟨hr3, hr4⟩ := hr2 (hng ho)
                rw [decide_eq_false ho] at hh hgiv
                subst hh hgiv
                have HN := Lib.hid hr3
                clear hr3 hr1 hr2 hzo HZ hng
                go_wp2_with fail
                refine Klass.region (fun W => W.heap[gn]? = some (.cells #[.int .i64 (nx + 1)] 25 (0, 0)) ∧ W.heap[gl]? = some (.cells #[.int .i64 (o + 1)] 25 (0, 0)) ∧ Below w.heap.size w W) (by kernel_rfl) (by kernel_rfl) ⟨BN2.out, BK2.out, below_drew HB2.out⟩ ?_
                intro T _ F hF0 hback0
                have d0 : ∀ x, (F x).cell? ⟨gn, 0, none⟩ = some (.int .i64 (nx + 1)) := fun x => (blk_cell (hF0 x).1 0).trans rfl
                have d1 : ∀ x, (F x).cell? ⟨gl, 0, none⟩ = some (.int .i64 (o + 1)) := fun x => (blk_cell (hF0 x).2.1 0).trans rfl
                have hF := Lib.hid hF0
                have hback := Lib.hid hback0
                clear hF0 hback0 hz fz hn hc0 hc1 BN2 BK2 HB2
                repeat (go_big_quiet_step (fail))
                refine wpQuiet_nil ?_
                intro W9 hw9
                obtain ⟨x9, rfl⟩ := hw9
                obtain ⟨BN9, BK9, HB9⟩ := hF.out x9
                clear d0 d1 hF hback
                generalize F x9 = W9 at BK9 HB9 BN9 ⊢
                have hc0 := pw_cell_below HB9 HG0.out
                have hc1 := pw_cell_below HB9 HW0.out
                have hz := (blk_cell BK9 0).trans (show (#[Value.int .i64 (o + 1)])[0]? = some (Value.int .i64 (o + 1)) from rfl)
                have fz := blk_frozen BK9 0
                have hn := (blk_cell BN9 0).trans (show (#[Value.int .i64 (nx + 1)])[0]? = some (Value.int .i64 (nx + 1)) from rfl)
                have BK := Aside0.mk (blk_put (cs' := #[.int .i64 (nx + 1)]) BK9 0 (.int .i64 (nx + 1)) rfl)
                have HB := Aside0.mk (below_set (v := .int .i64 (nx + 1)) (j := 0) HB9 GL.out)
                have HBq := Aside0.mk HB9
                clear BK9 HB9 BN9
                go_wp2_with fail
                go_quiet (fail)
                go_wp2_with fail
                go_roundg (l.length - (i + 1))
                case measure => omega
                case rel => exact ⟨i + 1, nx, who, true, by go_num, rfl, rfl, by omega, rfl, nx0, nx1, ⟨(decide_eq_true (by have := HN.out; omega)).symm, fun h => HN.out.symm⟩, BK, ⟨below_set (pw_below_drewN HBq.out nq) GL.out⟩⟩
    · have hz := (blk_cell BK.out 0).trans (show (#[Value.int .i64 (o + 1)])[0]? = some (Value.int .i64 (o + 1)) from rfl)
      go_wp2_with fail
      refine (free_any o _ o0).mono ?_; rintro e wy ⟨rfl, hb⟩
      go_wp2_with fail
      go_ret
      have hfin : (!decide (o < 0) == has) = true := by
        rw [HZ.out.1]
        by_cases e : o < 0
        · rw [decide_eq_true e, decide_eq_false (by omega)]; rfl
        · rw [decide_eq_false e, decide_eq_true (by omega)]; rfl
      refine ⟨?_, below_step HB.out hb⟩
      rw [hfin]
      rfl
theorem walk (A : Option Addr) (c : Nat) (l : List S27) (w : World) (hr : Kd.C k27 w A l.length l) (_ : l.length ≤ c) (hq : ∀ y ∈ l, (Lit.int .i64 y.f1).wf = true) :
    Calls Try.prog 4 #[.slice A l.length c] w fun e w' => e = .returned (.bool true) ∧ Below w.heap.size w w' := by
  by_cases h : (400 : Int) < l.length
  · exact calls_long A c l w h
  · exact calls_few A c l w (by omega) hr hq
end Go.Proofs.Ythmfcaieigclkaa.LatchOne
