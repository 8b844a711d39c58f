/- The walk of CellRises: the Go text returns true for every bound and every row of bools. -/
import Derived.Test.YtghhjmdolmadeaaPCellRisesx1
import Derived.Test.YtghhjmdolmadeaaCellBits
import Derived.Lib.Hide
import Derived.Test.YtghhjmdolmadeaaKlass
namespace Go.Proofs.Ytghhjmdolmadeaa.CellRises
open Go.RowKit Go.Proofs.Ytghhjmdolmadeaa.PCellRises Go.Proofs.YtghhjmdolmadeaaW.PrintWords Go.Proofs.YtghhjmdolmadeaaW.PrintLast Go.Proofs.Ytghhjmdolmadeaa.CellBits
theorem awake : doormanlaw05_awake.f = some true := by decide +kernel
theorem dec_beq (v : Int) : (v % 2 == 1) = decide (v % 2 = 1) := by rw [Bool.eq_iff_iff]; simp
theorem writing (v b : Int) (h0 : 0 ≤ v) (h1 : v ≤ 18446744073709551615) : cell_Cell_Writing.f v b = some (decide (v % 2 = 1)) := by
  unfold cell_Cell_Writing.f
  rw [and1 v h0 h1, dec_beq]
/-- One begin, one end. -/
def beg (v b : Int) : Int := if v % 2 = 0 ∧ v < b then v + 1 else v
def fin (v : Int) : Int := if v % 2 = 1 then v + 1 else v
theorem begin_ (v b : Int) (h0 : 0 ≤ v) (h1 : v ≤ 18446744073709551614) : cell_Cell_Begin.f v b = some (beg v b, b) := by
  unfold cell_Cell_Begin.f cell_Cell_Spent.f beg
  simp only [Option.bind_some]
  by_cases h : b ≤ v
  · rw [if_pos (by simpa using h), if_neg (by omega)]
  · rw [if_neg (by simpa using h), writing v b h0 (by omega)]
    simp only [Option.bind_some]
    by_cases e : v % 2 = 1
    · rw [decide_eq_true e, if_pos rfl, if_neg (by omega)]
    · rw [decide_eq_false e, if_neg (by decide), if_pos (by omega), wrapIn _ (by omega) (by omega)]
theorem end_ (v b : Int) (h0 : 0 ≤ v) (h1 : v ≤ 18446744073709551614) : cell_Cell_End.f v b = some (fin v, b) := by
  unfold cell_Cell_End.f fin
  rw [writing v b h0 (by omega)]
  simp only [Option.bind_some]
  by_cases h : v % 2 = 1
  · rw [decide_eq_true h, if_pos rfl, if_pos h, wrapIn _ (by omega) (by omega)]
  · rw [decide_eq_false h, if_neg (by decide), if_neg h]
theorem value_any (v b : Int) (w : World) : Calls Try.prog 14 #[.agg #[.int .u64 v, .int .u64 b]] w fun e w' => e = .returned (.int .u64 v) ∧ Below w.heap.size w w' := cell_Cell_Value.calls v b v w rfl
theorem spent_yes (v b : Int) (w : World) (h : b ≤ v) : Calls Try.prog 15 #[.agg #[.int .u64 v, .int .u64 b]] w fun e w' => e = .returned (.bool true) ∧ Below w.heap.size w w' := cell_Cell_Spent.calls v b true w (by unfold cell_Cell_Spent.f; rw [decide_eq_true h])
theorem spent_no (v b : Int) (w : World) (h : v < b) : Calls Try.prog 15 #[.agg #[.int .u64 v, .int .u64 b]] w fun e w' => e = .returned (.bool false) ∧ Below w.heap.size w w' := cell_Cell_Spent.calls v b false w (by unfold cell_Cell_Spent.f; rw [decide_eq_false (by omega)])
theorem writing_no (v b : Int) (w : World) (h0 : 0 ≤ v) (h1 : v ≤ 18446744073709551615) (h : v % 2 = 0) : Calls Try.prog 17 #[.agg #[.int .u64 v, .int .u64 b]] w fun e w' => e = .returned (.bool false) ∧ Below w.heap.size w w' := cell_Cell_Writing.calls v b false w (by rw [writing v b h0 h1, decide_eq_false (by omega)])
theorem begin_any (v b : Int) (w : World) (h0 : 0 ≤ v) (h1 : v ≤ 18446744073709551614) : Calls Try.prog 10 #[.agg #[.int .u64 v, .int .u64 b]] w fun e w' => e = .returned (.agg #[.int .u64 (beg v b), .int .u64 b]) ∧ Below w.heap.size w w' := cell_Cell_Begin.calls v b _ _ w (begin_ v b h0 h1)
theorem end_any (v b : Int) (w : World) (h0 : 0 ≤ v) (h1 : v ≤ 18446744073709551614) : Calls Try.prog 12 #[.agg #[.int .u64 v, .int .u64 b]] w fun e w' => e = .returned (.agg #[.int .u64 (fin v), .int .u64 b]) ∧ Below w.heap.size w w' := cell_Cell_End.calls v b _ _ w (end_ v b h0 h1)
theorem read_at {w : World} {A : Option Addr} {l : List Bool} (hr : Kd.C Kd.bool w A l.length l) (i : Nat) (hi : i < l.length) : ∃ ad, A = some ad ∧ w.cell? (ad.add i) = some (.bool (l.getD i false)) := by
  obtain ⟨ad, e, hc⟩ := hr.2.2 (by omega)
  obtain ⟨c, hs, hK, hcell⟩ := hc i _ (List.getElem?_eq_getElem hi)
  have hK' : c = [.bool l[i]] := hK
  subst hK'
  refine ⟨ad, e, ?_⟩
  have := hcell 0 _ rfl
  rw [List.getD_eq_getElem?_getD, List.getElem?_eq_getElem hi]
  simpa [Kd.bool, Kd.scalar] using this
def Good (w : World) (gc gd : Nat) (p : Addr) (v u B : Int) (lb : Bool) (W : World) : Prop :=
  W.heap[gc]? = some (.cells #[.int .u64 v, .int .u64 B] 26 (0, 0)) ∧ W.heap[gd]? = some (.cells #[.int .u64 u, .int .u64 B] 26 (0, 0)) ∧ W.cell? p = some (.bool lb) ∧ Below w.heap.size w W
theorem good_below {w : World} {gc gd : Nat} {p : Addr} {v u B : Int} {lb : Bool} {W W' : World} (h : Good w gc gd p v u B lb W) (hb : Below W.heap.size W W') : Good w gc gd p v u B lb W' :=
  ⟨blk_below h.1 hb, blk_below h.2.1 hb, pw_cell_below hb h.2.2.1, below_step h.2.2.2 hb⟩
theorem awake_any (w : World) : Calls Try.prog 8 #[] w fun e w' => e = .returned (.bool true) ∧ Below w.heap.size w w' := doormanlaw05_awake.calls true w awake
theorem new_any (b : Int) (w : World) (h0 : 0 ≤ b) (h1 : b ≤ 18446744073709551615) : Calls Try.prog 9 #[.int .u64 b] w fun e w' => e = .returned (.agg #[.int .u64 0, .int .u64 (b - b % 2)]) ∧ Below w.heap.size w w' :=
  cell_New.calls b 0 (b - b % 2) w (by unfold cell_New.f; rw [andNot1 b h0 h1])
set_option maxHeartbeats 1000000 in
theorem calls_long (b : Int) (A : Option Addr) (c : Nat) (l : List Bool) (w : World) (h : (400 : Int) < l.length) : Calls Try.prog 4 #[.int .u64 b, .slice A l.length c] w fun e w' => e = .returned (.bool true) ∧ Below w.heap.size w w' := by
  go_enter Try.func4, Try.ntmps4
  go_wp2_with fail
  refine (awake_any _).mono ?_; rintro e w1 ⟨rfl, hb1⟩
  go_wp2_with fail
  refine (awake_any _).mono ?_; rintro e w2 ⟨rfl, hb2⟩
  go_wp2_with fail
  go_ret
  exact ⟨rfl, below_step hb1 hb2⟩
set_option maxHeartbeats 1000000 in
theorem calls_few (b : Int) (A : Option Addr) (c : Nat) (l : List Bool) (w : World) (h : (l.length : Int) ≤ 400) (h0 : 0 ≤ b) (h1 : b ≤ 18446744073709551615) (hr : Kd.C Kd.bool w A l.length l) : Calls Try.prog 4 #[.int .u64 b, .slice A l.length c] w fun e w' => e = .returned (.bool true) ∧ Below w.heap.size w w' := by
  have hu26 := Try.underlying26
  have hbd0 : 0 ≤ b - b % 2 := by omega
  have hbd1 : b - b % 2 ≤ b := by omega
  have hbe : (b - b % 2) % 2 = 0 := by omega
  have hbd2 : b - b % 2 ≤ 18446744073709551614 := by omega
  generalize hB : b - b % 2 = B at hbd0 hbd1 hbd2 hbe
  have HBE := Lib.hid hbe
  clear hbe
  have hN : ∀ w : World, Calls Try.prog 9 #[.int .u64 b] w fun e w' => e = .returned (.agg #[.int .u64 0, .int .u64 B]) ∧ Below w.heap.size w w' := fun w => hB ▸ new_any b w h0 h1
  clear hB
  have HN := Lib.hid hN
  clear hN
  go_enter Try.func4, Try.ntmps4
  go_wp2_with fail
  refine (awake_any _).mono ?_; rintro e w1 ⟨rfl, hb1⟩
  go_wp2_with fail
  refine (HN.out _).mono ?_; rintro e w2 ⟨rfl, hb2⟩
  have HB := Aside0.mk (below_step hb1 hb2)
  clear hb1 hb2
  go_wp2_with ((with_reducible refine gate_dst (N := 5) rfl ?_); refine box_event ?hg (N := 5) ?hd (cs := #[.int .u64 0, .int .u64 0]) (t := 26) ?hr ?_; (case hd => rfl); (case hg => rfl); (case hr => first | (go_simp; done) | (go_simp; rfl)); intro gc hg w3 hbox hb; have HB3 := Aside0.mk (below_step HB.out hb); have GC := Aside0.mk (by rw [hg]; exact below_size HB.out : w.heap.size ≤ gc); have BK := Aside0.mk hbox; clear hb hbox hg HB; have hcz0 : w3.cell? ⟨gc, 0, none⟩ = some (.int .u64 0) := (blk_cell BK.out 0).trans rfl; have hcz1 : w3.cell? ⟨gc, 1, none⟩ = some (.int .u64 0) := (blk_cell BK.out 1).trans rfl; have hfz0 := blk_frozen BK.out 0; have hfz1 := blk_frozen BK.out 1)
  go_loopw [6] (fun v6 wr => ∃ (i : Nat) (v : Int), v6 = .int .i64 i ∧ i ≤ l.length ∧ 0 ≤ v ∧ v ≤ B ∧ Aside0 (wr.heap[gc]? = some (.cells #[.int .u64 v, .int .u64 B] 26 (0, 0))) ∧ Aside0 (Below w.heap.size w wr)) (fun v6 _ => l.length - (intOf v6).toNat)
  case atStart => exact ⟨0, 0, rfl, by omega, by omega, by omega, ⟨blk_put (cs := #[.int .u64 0, .int .u64 0]) (blk_put (cs := #[.int .u64 0, .int .u64 0]) BK.out 0 _ rfl) 1 _ rfl⟩, ⟨below_set (below_set HB3.out GC.out) GC.out⟩⟩
  case round =>
    clear hcz0 hcz1 hfz0 hfz1 BK HB3 HN
    obtain ⟨i, v, rfl, hi, v0, v1, BK, HB⟩ := hrel
    by_cases hlt : i < l.length
    · obtain ⟨ad, rfl, hcell0⟩ := read_at hr i hlt
      have hcell := pw_cell_below HB.out hcell0
      have hcz0 : wr.cell? ⟨gc, 0, none⟩ = some (.int .u64 v) := (blk_cell BK.out 0).trans rfl
      have hcz1 : wr.cell? ⟨gc, 1, none⟩ = some (.int .u64 B) := (blk_cell BK.out 1).trans rfl
      have hfz0 := blk_frozen BK.out 0
      have hfz1 := blk_frozen BK.out 1
      cases hlb : l.getD i false with
      | true =>
        rw [hlb] at hcell
        have HL := Lib.hid hlb
        clear hlb hcell0
        go_wp2_with fail
        refine (end_any v B _ v0 (by omega)).mono ?_; rintro e w4 ⟨rfl, hb⟩
        have HB4 := Aside0.mk (below_step HB.out hb)
        have BK4 := Aside0.mk (blk_below BK.out hb)
        have hcell4 := pw_cell_below hb hcell
        have had4 := World.block_lt_of_cell? w4 _ hcell4
        clear hcell hcz0 hcz1 hfz0 hfz1 BK HB hb
        go_wp2_with ((with_reducible refine gate_dst (N := 7) rfl ?_); refine box_event ?hg (N := 7) ?hd (cs := #[.int .u64 0, .int .u64 0]) (t := 26) ?hr ?_; (case hd => rfl); (case hg => rfl); (case hr => first | (go_simp; done) | (go_simp; rfl)); intro gd hg w5 hbox hb; have HB5 := Aside0.mk (below_step HB4.out hb); have GD := Aside0.mk (by rw [hg]; exact below_size HB4.out : w.heap.size ≤ gd); have BKD := Aside0.mk hbox; have BK5 := Aside0.mk (blk_below BK4.out hb); have hcell5 := pw_cell_below hb hcell4; have hne : gc ≠ gd := (by rw [hg]; exact Nat.ne_of_lt (blk_lt BK4.out)); have hne2 : (ad.add i).block ≠ gd := (by rw [hg]; exact Nat.ne_of_lt had4); clear hb hbox hg HB4 BK4 hcell4 had4; have hcz0 : w5.cell? ⟨gc, 0, none⟩ = some (.int .u64 v) := (blk_cell BK5.out 0).trans rfl; have hcz1 : w5.cell? ⟨gc, 1, none⟩ = some (.int .u64 B) := (blk_cell BK5.out 1).trans rfl; have hdz0 : w5.cell? ⟨gd, 0, none⟩ = some (.int .u64 0) := (blk_cell BKD.out 0).trans rfl; have hdz1 : w5.cell? ⟨gd, 1, none⟩ = some (.int .u64 0) := (blk_cell BKD.out 1).trans rfl; have hcs : ((w5.setCell ⟨gd, 0, none⟩ (.int .u64 (fin v))).setCell ⟨gd, 1, none⟩ (.int .u64 B)).cell? (ad.add i) = some (.bool true) := (World.cell?_setCell_other _ _ _ _ (fun e => hne2 (by rw [← e]))).trans ((World.cell?_setCell_other _ _ _ _ (fun e => hne2 (by rw [← e]))).trans hcell5); have hdf0 := blk_frozen BKD.out 0; have hdf1 := blk_frozen BKD.out 1)
        have HBm := Aside0.mk (below_set (v := .int .u64 B) (j := 1) (below_set (v := .int .u64 (fin v)) (j := 0) HB5.out GD.out) GD.out)
        have BKm := Aside0.mk (blk_far (p := ⟨gd, 1, none⟩) (blk_far (p := ⟨gd, 0, none⟩) BK5.out hne (.int .u64 (fin v))) hne (.int .u64 B))
        have BKDm := Aside0.mk (blk_put (cs' := #[.int .u64 (fin v), .int .u64 B]) (blk_put (cs' := #[.int .u64 (fin v), .int .u64 0]) BKD.out 0 (.int .u64 (fin v)) rfl) 1 (.int .u64 B) rfl)
        clear hcz0 hcz1 hdz0 hdz1 hdf0 hdf1 HB5 BK5 BKD hcell5
        refine (begin_any v B _ v0 (by omega)).mono ?_; rintro e w6 ⟨rfl, hb⟩
        have HB6 := Aside0.mk (below_step HBm.out hb)
        have BK6 := Aside0.mk (blk_below BKm.out hb)
        have BKD6 := Aside0.mk (blk_below BKDm.out hb)
        have hcell6 := pw_cell_below hb hcs
        clear hcs HBm BKm BKDm hb
        have hu : v ≤ beg v B ∧ beg v B ≤ v + 1 ∧ beg v B ≤ B := by unfold beg; have := HBE.out; split <;> omega
        generalize beg v B = u at hu
        obtain ⟨u1, u2, u3⟩ := hu
        have hdz0 : w6.cell? ⟨gd, 0, none⟩ = some (.int .u64 (fin v)) := (blk_cell BKD6.out 0).trans rfl
        have hdz1 : w6.cell? ⟨gd, 1, none⟩ = some (.int .u64 B) := (blk_cell BKD6.out 1).trans rfl
        have hdf0 := blk_frozen BKD6.out 0
        have hdf1 := blk_frozen BKD6.out 1
        go_wp2_with fail
        have HBs := Aside0.mk (below_set (v := .int .u64 B) (j := 1) (below_set (v := .int .u64 u) (j := 0) HB6.out GD.out) GD.out)
        have BKs := Aside0.mk (blk_far (p := ⟨gd, 1, none⟩) (blk_far (p := ⟨gd, 0, none⟩) BK6.out hne (.int .u64 u)) hne (.int .u64 B))
        have BKDs := Aside0.mk (blk_put (cs' := #[.int .u64 u, .int .u64 B]) (blk_put (cs' := #[.int .u64 u, .int .u64 B]) BKD6.out 0 (.int .u64 u) rfl) 1 (.int .u64 B) rfl)
        have hcs : ((w6.setCell ⟨gd, 0, none⟩ (.int .u64 u)).setCell ⟨gd, 1, none⟩ (.int .u64 B)).cell? (ad.add i) = some (.bool true) := (World.cell?_setCell_other _ _ _ _ (fun e => hne2 (by rw [← e]))).trans ((World.cell?_setCell_other _ _ _ _ (fun e => hne2 (by rw [← e]))).trans hcell6)
        clear hdz0 hdz1 hdf0 hdf1 HB6 BK6 BKD6 hcell6
        have hg1 : decide (u < v) = false := decide_eq_false (by omega)
        have hg2 : IntKind.u64.wrap (u - v) = u - v := wrapIn _ (by omega) (by omega)
        have hg3 : decide (1 < u - v) = false := decide_eq_false (by omega)
        have hg4 : decide (b < u) = false := decide_eq_false (by omega)
        by_cases hs : B ≤ v
        · refine Klass.region (Good w gc gd (ad.add i) v u B true) (by kernel_rfl) (by kernel_rfl) ⟨BKs.out, BKDs.out, hcs, below_drew HBs.out⟩ ?_
          intro T _ F hF0 hback0
          have c0 : ∀ x, (F x).cell? ⟨gc, 0, none⟩ = some (.int .u64 v) := fun x => (blk_cell (hF0 x).1 0).trans rfl
          have c1 : ∀ x, (F x).cell? ⟨gc, 1, none⟩ = some (.int .u64 B) := fun x => (blk_cell (hF0 x).1 1).trans rfl
          have d0 : ∀ x, (F x).cell? ⟨gd, 0, none⟩ = some (.int .u64 u) := fun x => (blk_cell (hF0 x).2.1 0).trans rfl
          have d1 : ∀ x, (F x).cell? ⟨gd, 1, none⟩ = some (.int .u64 B) := fun x => (blk_cell (hF0 x).2.1 1).trans rfl
          have e0 : ∀ x, (F x).cell? (ad.add i) = some (.bool true) := fun x => (hF0 x).2.2.1
          have hF := Lib.hid hF0
          have hback := Lib.hid hback0
          clear hF0 hback0 hcs HBs BKs BKDs
          repeat (go_big_quiet_step (first | (go_at_call 14; refine (value_any _ _ _).mono ?_; rintro e wx ⟨rfl, hb⟩; exact ⟨rfl, hback.out _ (good_below (hF.out _) hb)⟩) | (go_at_call 15; refine (spent_yes _ _ _ (by omega)).mono ?_; rintro e wx ⟨rfl, hb⟩; exact ⟨rfl, hback.out _ (good_below (hF.out _) hb)⟩)))
          refine wpQuiet_nil ?_
          intro W9 hw9
          obtain ⟨x9, rfl⟩ := hw9
          obtain ⟨BKx, BKDx, _, HBx⟩ := hF.out x9
          have HBy := Aside0.mk HBx
          have BKy := Aside0.mk BKx
          have f0 := blk_frozen BKx 0
          have f1 := blk_frozen BKx 1
          clear BKx BKDx HBx
          go_wp2_with fail
          go_roundw
          case rel => exact ⟨i + 1, u, by go_num, by omega, by omega, by omega, ⟨blk_put (cs := #[.int .u64 u, .int .u64 B]) (blk_put (cs := #[.int .u64 v, .int .u64 B]) BKy.out 0 _ rfl) 1 _ rfl⟩, ⟨below_set (below_set HBy.out GC.out) GC.out⟩⟩
          case measure => simp [intOf]; omega
        · refine Klass.region (Good w gc gd (ad.add i) v u B true) (by kernel_rfl) (by kernel_rfl) ⟨BKs.out, BKDs.out, hcs, below_drew HBs.out⟩ ?_
          intro T _ F hF0 hback0
          have c0 : ∀ x, (F x).cell? ⟨gc, 0, none⟩ = some (.int .u64 v) := fun x => (blk_cell (hF0 x).1 0).trans rfl
          have c1 : ∀ x, (F x).cell? ⟨gc, 1, none⟩ = some (.int .u64 B) := fun x => (blk_cell (hF0 x).1 1).trans rfl
          have d0 : ∀ x, (F x).cell? ⟨gd, 0, none⟩ = some (.int .u64 u) := fun x => (blk_cell (hF0 x).2.1 0).trans rfl
          have d1 : ∀ x, (F x).cell? ⟨gd, 1, none⟩ = some (.int .u64 B) := fun x => (blk_cell (hF0 x).2.1 1).trans rfl
          have e0 : ∀ x, (F x).cell? (ad.add i) = some (.bool true) := fun x => (hF0 x).2.2.1
          have hF := Lib.hid hF0
          have hback := Lib.hid hback0
          clear hF0 hback0 hcs HBs BKs BKDs
          repeat (go_big_quiet_step (first | (go_at_call 14; refine (value_any _ _ _).mono ?_; rintro e wx ⟨rfl, hb⟩; exact ⟨rfl, hback.out _ (good_below (hF.out _) hb)⟩) | (go_at_call 15; refine (spent_no _ _ _ (by omega)).mono ?_; rintro e wx ⟨rfl, hb⟩; exact ⟨rfl, hback.out _ (good_below (hF.out _) hb)⟩)))
          refine wpQuiet_nil ?_
          intro W9 hw9
          obtain ⟨x9, rfl⟩ := hw9
          obtain ⟨BKx, BKDx, _, HBx⟩ := hF.out x9
          have HBy := Aside0.mk HBx
          have BKy := Aside0.mk BKx
          have f0 := blk_frozen BKx 0
          have f1 := blk_frozen BKx 1
          clear BKx BKDx HBx
          go_wp2_with fail
          go_roundw
          case rel => exact ⟨i + 1, u, by go_num, by omega, by omega, by omega, ⟨blk_put (cs := #[.int .u64 u, .int .u64 B]) (blk_put (cs := #[.int .u64 v, .int .u64 B]) BKy.out 0 _ rfl) 1 _ rfl⟩, ⟨below_set (below_set HBy.out GC.out) GC.out⟩⟩
          case measure => simp [intOf]; omega
      | false =>
        rw [hlb] at hcell
        have HL := Lib.hid hlb
        clear hlb hcell0
        go_wp2_with fail
        refine (end_any v B _ v0 (by omega)).mono ?_; rintro e w4 ⟨rfl, hb⟩
        have HB4 := Aside0.mk (below_step HB.out hb)
        have BK4 := Aside0.mk (blk_below BK.out hb)
        have hcell4 := pw_cell_below hb hcell
        have had4 := World.block_lt_of_cell? w4 _ hcell4
        have hu : v ≤ fin v ∧ fin v ≤ v + 1 ∧ fin v ≤ B ∧ fin v % 2 = 0 := by unfold fin; have := HBE.out; split <;> omega
        generalize fin v = u at hu
        obtain ⟨u1, u2, u3, hev⟩ := hu
        have u0 : 0 ≤ u := by omega
        have HE := Lib.hid hev
        clear hev
        clear hcell hcz0 hcz1 hfz0 hfz1 BK HB hb
        go_wp2_with ((with_reducible refine gate_dst (N := 7) rfl ?_); refine box_event ?hg (N := 7) ?hd (cs := #[.int .u64 0, .int .u64 0]) (t := 26) ?hr ?_; (case hd => rfl); (case hg => rfl); (case hr => first | (go_simp; done) | (go_simp; rfl)); intro gd hg w5 hbox hb; have HB5 := Aside0.mk (below_step HB4.out hb); have GD := Aside0.mk (by rw [hg]; exact below_size HB4.out : w.heap.size ≤ gd); have BKD := Aside0.mk hbox; have BK5 := Aside0.mk (blk_below BK4.out hb); have hcell5 := pw_cell_below hb hcell4; have hne : gc ≠ gd := (by rw [hg]; exact Nat.ne_of_lt (blk_lt BK4.out)); have hne2 : (ad.add i).block ≠ gd := (by rw [hg]; exact Nat.ne_of_lt had4); clear hb hbox hg HB4 BK4 hcell4 had4; have hcz0 : w5.cell? ⟨gc, 0, none⟩ = some (.int .u64 v) := (blk_cell BK5.out 0).trans rfl; have hcz1 : w5.cell? ⟨gc, 1, none⟩ = some (.int .u64 B) := (blk_cell BK5.out 1).trans rfl; have hdz0 : w5.cell? ⟨gd, 0, none⟩ = some (.int .u64 0) := (blk_cell BKD.out 0).trans rfl; have hdz1 : w5.cell? ⟨gd, 1, none⟩ = some (.int .u64 0) := (blk_cell BKD.out 1).trans rfl; have hcs : ((w5.setCell ⟨gd, 0, none⟩ (.int .u64 u)).setCell ⟨gd, 1, none⟩ (.int .u64 B)).cell? (ad.add i) = some (.bool false) := (World.cell?_setCell_other _ _ _ _ (fun e => hne2 (by rw [← e]))).trans ((World.cell?_setCell_other _ _ _ _ (fun e => hne2 (by rw [← e]))).trans hcell5); have hdf0 := blk_frozen BKD.out 0; have hdf1 := blk_frozen BKD.out 1)
        have HBs := Aside0.mk (below_set (v := .int .u64 B) (j := 1) (below_set (v := .int .u64 u) (j := 0) HB5.out GD.out) GD.out)
        have BKs := Aside0.mk (blk_far (p := ⟨gd, 1, none⟩) (blk_far (p := ⟨gd, 0, none⟩) BK5.out hne (.int .u64 u)) hne (.int .u64 B))
        have BKDs := Aside0.mk (blk_put (cs' := #[.int .u64 u, .int .u64 B]) (blk_put (cs' := #[.int .u64 u, .int .u64 0]) BKD.out 0 (.int .u64 u) rfl) 1 (.int .u64 B) rfl)
        clear hcz0 hcz1 hdz0 hdz1 hdf0 hdf1 HB5 BK5 BKD hcell5
        have hg1 : decide (u < v) = false := decide_eq_false (by omega)
        have hg2 : IntKind.u64.wrap (u - v) = u - v := wrapIn _ (by omega) (by omega)
        have hg3 : decide (1 < u - v) = false := decide_eq_false (by omega)
        have hg4 : decide (b < u) = false := decide_eq_false (by omega)
        by_cases hs : B ≤ v
        · refine Klass.region (Good w gc gd (ad.add i) v u B false) (by kernel_rfl) (by kernel_rfl) ⟨BKs.out, BKDs.out, hcs, below_drew HBs.out⟩ ?_
          intro T _ F hF0 hback0
          have c0 : ∀ x, (F x).cell? ⟨gc, 0, none⟩ = some (.int .u64 v) := fun x => (blk_cell (hF0 x).1 0).trans rfl
          have c1 : ∀ x, (F x).cell? ⟨gc, 1, none⟩ = some (.int .u64 B) := fun x => (blk_cell (hF0 x).1 1).trans rfl
          have d0 : ∀ x, (F x).cell? ⟨gd, 0, none⟩ = some (.int .u64 u) := fun x => (blk_cell (hF0 x).2.1 0).trans rfl
          have d1 : ∀ x, (F x).cell? ⟨gd, 1, none⟩ = some (.int .u64 B) := fun x => (blk_cell (hF0 x).2.1 1).trans rfl
          have e0 : ∀ x, (F x).cell? (ad.add i) = some (.bool false) := fun x => (hF0 x).2.2.1
          have hF := Lib.hid hF0
          have hback := Lib.hid hback0
          clear hF0 hback0 hcs HBs BKs BKDs
          repeat (go_big_quiet_step (first | (go_at_call 14; refine (value_any _ _ _).mono ?_; rintro e wx ⟨rfl, hb⟩; exact ⟨rfl, hback.out _ (good_below (hF.out _) hb)⟩) | (go_at_call 17; refine (writing_no _ _ _ u0 (by omega) HE.out).mono ?_; rintro e wx ⟨rfl, hb⟩; exact ⟨rfl, hback.out _ (good_below (hF.out _) hb)⟩) | (go_at_call 15; refine (spent_yes _ _ _ (by omega)).mono ?_; rintro e wx ⟨rfl, hb⟩; exact ⟨rfl, hback.out _ (good_below (hF.out _) hb)⟩)))
          refine wpQuiet_nil ?_
          intro W9 hw9
          obtain ⟨x9, rfl⟩ := hw9
          obtain ⟨BKx, BKDx, _, HBx⟩ := hF.out x9
          have HBy := Aside0.mk HBx
          have BKy := Aside0.mk BKx
          have f0 := blk_frozen BKx 0
          have f1 := blk_frozen BKx 1
          clear BKx BKDx HBx
          go_wp2_with fail
          go_roundw
          case rel => exact ⟨i + 1, u, by go_num, by omega, by omega, by omega, ⟨blk_put (cs := #[.int .u64 u, .int .u64 B]) (blk_put (cs := #[.int .u64 v, .int .u64 B]) BKy.out 0 _ rfl) 1 _ rfl⟩, ⟨below_set (below_set HBy.out GC.out) GC.out⟩⟩
          case measure => simp [intOf]; omega
        · refine Klass.region (Good w gc gd (ad.add i) v u B false) (by kernel_rfl) (by kernel_rfl) ⟨BKs.out, BKDs.out, hcs, below_drew HBs.out⟩ ?_
          intro T _ F hF0 hback0
          have c0 : ∀ x, (F x).cell? ⟨gc, 0, none⟩ = some (.int .u64 v) := fun x => (blk_cell (hF0 x).1 0).trans rfl
          have c1 : ∀ x, (F x).cell? ⟨gc, 1, none⟩ = some (.int .u64 B) := fun x => (blk_cell (hF0 x).1 1).trans rfl
          have d0 : ∀ x, (F x).cell? ⟨gd, 0, none⟩ = some (.int .u64 u) := fun x => (blk_cell (hF0 x).2.1 0).trans rfl
          have d1 : ∀ x, (F x).cell? ⟨gd, 1, none⟩ = some (.int .u64 B) := fun x => (blk_cell (hF0 x).2.1 1).trans rfl
          have e0 : ∀ x, (F x).cell? (ad.add i) = some (.bool false) := fun x => (hF0 x).2.2.1
          have hF := Lib.hid hF0
          have hback := Lib.hid hback0
          clear hF0 hback0 hcs HBs BKs BKDs
          repeat (go_big_quiet_step (first | (go_at_call 14; refine (value_any _ _ _).mono ?_; rintro e wx ⟨rfl, hb⟩; exact ⟨rfl, hback.out _ (good_below (hF.out _) hb)⟩) | (go_at_call 17; refine (writing_no _ _ _ u0 (by omega) HE.out).mono ?_; rintro e wx ⟨rfl, hb⟩; exact ⟨rfl, hback.out _ (good_below (hF.out _) hb)⟩) | (go_at_call 15; refine (spent_no _ _ _ (by omega)).mono ?_; rintro e wx ⟨rfl, hb⟩; exact ⟨rfl, hback.out _ (good_below (hF.out _) hb)⟩)))
          refine wpQuiet_nil ?_
          intro W9 hw9
          obtain ⟨x9, rfl⟩ := hw9
          obtain ⟨BKx, BKDx, _, HBx⟩ := hF.out x9
          have HBy := Aside0.mk HBx
          have BKy := Aside0.mk BKx
          have f0 := blk_frozen BKx 0
          have f1 := blk_frozen BKx 1
          clear BKx BKDx HBx
          go_wp2_with fail
          go_roundw
          case rel => exact ⟨i + 1, u, by go_num, by omega, by omega, by omega, ⟨blk_put (cs := #[.int .u64 u, .int .u64 B]) (blk_put (cs := #[.int .u64 v, .int .u64 B]) BKy.out 0 _ rfl) 1 _ rfl⟩, ⟨below_set (below_set HBy.out GC.out) GC.out⟩⟩
          case measure => simp [intOf]; omega
    · go_wp2_with fail
      go_ret
      exact ⟨rfl, HB.out⟩
theorem walk (b : Int) (A : Option Addr) (c : Nat) (l : List Bool) (w : World) (wb : (Lit.int .u64 b).wf = true) (hr : Kd.C Kd.bool w A l.length l) (_ : l.length ≤ c) (_ : ∀ y ∈ l, True) :
    Calls Try.prog 4 #[.int .u64 b, .slice A l.length c] w fun e w' => e = .returned (.bool true) ∧ Below w.heap.size w w' := by
  obtain ⟨h0, h1⟩ := bounds_u64 wb
  by_cases h : (400 : Int) < l.length
  · exact calls_long b A c l w h
  · exact calls_few b A c l w (by omega) h0 h1 hr
end Go.Proofs.Ytghhjmdolmadeaa.CellRises
