/- The walk of CellSaw: the Go text returns true for every bound, row of bools and two numbers. -/
import Derived.Test.YtghhjmdolmadeaaPCellSawx1
import Derived.Test.YtghhjmdolmadeaaCellBits
import Derived.Test.YtghhjmdolmadeaaKlass
import Derived.Deep.RegionHeld3
import Derived.Lib.Hide
namespace Go.Proofs.Ytghhjmdolmadeaa.CellSaw
open Go.RowKit Go.Proofs.Ytghhjmdolmadeaa.PCellSaw Go.Proofs.YtghhjmdolmadeaaW.PrintWords Go.Proofs.YtghhjmdolmadeaaW.PrintLast Go.Proofs.Ytghhjmdolmadeaa.CellBits
theorem awake : doormanlaw05_awake.f = some true := by decide +kernel
theorem dec_beq (v : Int) : (v % 2 == 1) = decide (v % 2 = 1) := by rw [Bool.eq_iff_iff]; simp
theorem writing (v b : Int) (h0 : 0 ≤ v) (h1 : v ≤ 18446744073709551615) : cell_Cell_Writing.f v b = some (decide (v % 2 = 1)) := by
  unfold cell_Cell_Writing.f
  rw [and1 v h0 h1, dec_beq]
/-- One begin, one end. -/
def beg (v b : Int) : Int := if v % 2 = 0 ∧ v < b then v + 1 else v
def fin (v : Int) : Int := if v % 2 = 1 then v + 1 else v
theorem begin_ (v b : Int) (h0 : 0 ≤ v) (h1 : v ≤ 18446744073709551614) : cell_Cell_Begin.f v b = some (beg v b, b) := by
  unfold cell_Cell_Begin.f cell_Cell_Spent.f beg
  simp only [Option.bind_some]
  by_cases h : b ≤ v
  · rw [if_pos (by simpa using h), if_neg (by omega)]
  · rw [if_neg (by simpa using h), writing v b h0 (by omega)]
    simp only [Option.bind_some]
    by_cases e : v % 2 = 1
    · rw [decide_eq_true e, if_pos rfl, if_neg (by omega)]
    · rw [decide_eq_false e, if_neg (by decide), if_pos (by omega), wrapIn _ (by omega) (by omega)]
theorem end_ (v b : Int) (h0 : 0 ≤ v) (h1 : v ≤ 18446744073709551614) : cell_Cell_End.f v b = some (fin v, b) := by
  unfold cell_Cell_End.f fin
  rw [writing v b h0 (by omega)]
  simp only [Option.bind_some]
  by_cases h : v % 2 = 1
  · rw [decide_eq_true h, if_pos rfl, if_pos h, wrapIn _ (by omega) (by omega)]
  · rw [decide_eq_false h, if_neg (by decide), if_neg h]
theorem value_any (v b : Int) (w : World) : Calls Try.prog 14 #[.agg #[.int .u64 v, .int .u64 b]] w fun e w' => e = .returned (.int .u64 v) ∧ Below w.heap.size w w' := cell_Cell_Value.calls v b v w rfl
theorem spent_yes (v b : Int) (w : World) (h : b ≤ v) : Calls Try.prog 15 #[.agg #[.int .u64 v, .int .u64 b]] w fun e w' => e = .returned (.bool true) ∧ Below w.heap.size w w' := cell_Cell_Spent.calls v b true w (by unfold cell_Cell_Spent.f; rw [decide_eq_true h])
theorem spent_no (v b : Int) (w : World) (h : v < b) : Calls Try.prog 15 #[.agg #[.int .u64 v, .int .u64 b]] w fun e w' => e = .returned (.bool false) ∧ Below w.heap.size w w' := cell_Cell_Spent.calls v b false w (by unfold cell_Cell_Spent.f; rw [decide_eq_false (by omega)])
theorem writing_no (v b : Int) (w : World) (h0 : 0 ≤ v) (h1 : v ≤ 18446744073709551615) (h : v % 2 = 0) : Calls Try.prog 17 #[.agg #[.int .u64 v, .int .u64 b]] w fun e w' => e = .returned (.bool false) ∧ Below w.heap.size w w' := cell_Cell_Writing.calls v b false w (by rw [writing v b h0 h1, decide_eq_false (by omega)])
theorem begin_any (v b : Int) (w : World) (h0 : 0 ≤ v) (h1 : v ≤ 18446744073709551614) : Calls Try.prog 10 #[.agg #[.int .u64 v, .int .u64 b]] w fun e w' => e = .returned (.agg #[.int .u64 (beg v b), .int .u64 b]) ∧ Below w.heap.size w w' := cell_Cell_Begin.calls v b _ _ w (begin_ v b h0 h1)
theorem end_any (v b : Int) (w : World) (h0 : 0 ≤ v) (h1 : v ≤ 18446744073709551614) : Calls Try.prog 12 #[.agg #[.int .u64 v, .int .u64 b]] w fun e w' => e = .returned (.agg #[.int .u64 (fin v), .int .u64 b]) ∧ Below w.heap.size w w' := cell_Cell_End.calls v b _ _ w (end_ v b h0 h1)
theorem read_at {w : World} {A : Option Addr} {l : List Bool} (hr : Kd.C Kd.bool w A l.length l) (i : Nat) (hi : i < l.length) : ∃ ad, A = some ad ∧ w.cell? (ad.add i) = some (.bool (l.getD i false)) := by
  obtain ⟨ad, e, hc⟩ := hr.2.2 (by omega)
  obtain ⟨c, hs, hK, hcell⟩ := hc i _ (List.getElem?_eq_getElem hi)
  have hK' : c = [.bool l[i]] := hK
  subst hK'
  refine ⟨ad, e, ?_⟩
  have := hcell 0 _ rfl
  rw [List.getD_eq_getElem?_getD, List.getElem?_eq_getElem hi]
  simpa [Kd.bool, Kd.scalar] using this
theorem awake_any (w : World) : Calls Try.prog 8 #[] w fun e w' => e = .returned (.bool true) ∧ Below w.heap.size w w' := doormanlaw05_awake.calls true w awake
theorem new_any (b : Int) (w : World) (h0 : 0 ≤ b) (h1 : b ≤ 18446744073709551615) : Calls Try.prog 9 #[.int .u64 b] w fun e w' => e = .returned (.agg #[.int .u64 0, .int .u64 (b - b % 2)]) ∧ Below w.heap.size w w' :=
  cell_New.calls b 0 (b - b % 2) w (by unfold cell_New.f; rw [andNot1 b h0 h1])

theorem writing_is (v b : Int) (w : World) (h0 : 0 ≤ v) (h1 : v ≤ 18446744073709551615) : Calls Try.prog 17 #[.agg #[.int .u64 v, .int .u64 b]] w fun e w' => e = .returned (.bool (decide (v % 2 = 1))) ∧ Below w.heap.size w w' := cell_Cell_Writing.calls v b _ w (writing v b h0 h1)
theorem spent_is (v b : Int) (w : World) : Calls Try.prog 15 #[.agg #[.int .u64 v, .int .u64 b]] w fun e w' => e = .returned (.bool (decide (b ≤ v))) ∧ Below w.heap.size w w' := cell_Cell_Spent.calls v b _ w rfl
theorem valid_is (x y b : Int) (w : World) (h0 : 0 ≤ x) (h1 : x ≤ 18446744073709551615) (b0 : 0 ≤ b) (b1 : b ≤ 18446744073709551615) : Calls Try.prog 18 #[.int .u64 x, .int .u64 y, .int .u64 b] w fun e w' => e = .returned (.bool (decide (x = y ∧ x % 2 = 0 ∧ x < b - b % 2))) ∧ Below w.heap.size w w' := by
  refine (cell_Valid.calls x y b (decide (x = y ∧ x % 2 = 0 ∧ x < b - b % 2)) w ?_).mono fun e w' ⟨he, hw⟩ => ⟨he, Drawn0.below hw⟩
  unfold cell_Valid.f
  rw [and1 x h0 h1, andNot1 b b0 b1]
  by_cases e : x = y
  · rw [if_pos e]
    by_cases e2 : x % 2 = 0
    · rw [if_pos e2]
      congr 1
      rw [decide_eq_decide]
      exact ⟨fun h => ⟨e, e2, h⟩, fun h => h.2.2⟩
    · rw [if_neg e2, decide_eq_false (fun q => e2 q.2.1)]
  · rw [if_neg e, decide_eq_false (fun q => e q.1)]
/-- What holds of the looks and of what was written, at the head of round i. -/
def Inv (a b B i v x y : Int) (wr : Bool) : Prop :=
  0 ≤ v ∧ v ≤ B ∧ 0 ≤ x ∧ x ≤ B ∧ 0 ≤ y ∧ y ≤ B ∧ (i ≤ a → wr = false) ∧ (a < i → i ≤ b → x ≤ v ∧ (wr = true ↔ x ≠ v)) ∧ (b < i → (wr = true ↔ x ≠ y))
theorem inv_step {a b B i v x y v' x' y' : Int} {wr wr' : Bool} (h : Inv a b B i v x y wr) (hab : a ≤ b) (hv : v ≤ v') (hv' : v' ≤ B) (hx : x' = if i = a then v else x) (hy : y' = if i = b then v else y)
    (hw : wr' = true ↔ wr = true ∨ (a ≤ i ∧ i < b ∧ v ≠ v')) : Inv a b B (i + 1) v' x' y' wr' := by
  obtain ⟨v0, v1, x0, x1, y0, y1, h1, h2, h3⟩ := h
  refine ⟨by omega, hv', by rw [hx]; split <;> omega, by rw [hx]; split <;> omega, by rw [hy]; split <;> omega, by rw [hy]; split <;> omega, fun hi => ?_, fun hi hib => ?_, fun hi => ?_⟩
  · have e := h1 (by omega)
    subst e
    cases wr' with
    | false => rfl
    | true =>
      rcases hw.1 rfl with q | q
      · cases q
      · omega
  · by_cases e : i = a
    · have e1 := h1 (by omega)
      subst e1
      rw [hx, if_pos e]
      refine ⟨hv, hw.trans ⟨fun q => ?_, fun q => .inr ⟨by omega, by omega, q⟩⟩⟩
      rcases q with q | q
      · cases q
      · exact q.2.2
    · obtain ⟨g1, g2⟩ := h2 (by omega) (by omega)
      rw [hx, if_neg e]
      refine ⟨by omega, hw.trans ⟨fun q => ?_, fun q => ?_⟩⟩
      · rcases q with q | q
        · have := g2.1 q; omega
        · omega
      · by_cases e2 : x = v
        · exact .inr ⟨by omega, by omega, by omega⟩
        · exact .inl (g2.2 e2)
  · by_cases e : i = b
    · rw [hy, if_pos e]
      by_cases e2 : i = a
      · have e1 := h1 (by omega)
        subst e1
        rw [hx, if_pos e2]
        refine hw.trans ⟨fun q => ?_, fun q => absurd rfl q⟩
        rcases q with q | q
        · cases q
        · omega
      · obtain ⟨g1, g2⟩ := h2 (by omega) (by omega)
        rw [hx, if_neg e2]
        refine hw.trans ⟨fun q => ?_, fun q => .inl (g2.2 q)⟩
        rcases q with q | q
        · exact g2.1 q
        · omega
    · have g := h3 (by omega)
      rw [hx, hy, if_neg e, if_neg (by omega)]
      refine hw.trans ⟨fun q => ?_, fun q => .inl (g.2 q)⟩
      rcases q with q | q
      · exact g.1 q
      · omega
set_option maxHeartbeats 1000000 in
set_option maxRecDepth 100000 in
theorem calls_long (b : Int) (A : Option Addr) (c : Nat) (l : List Bool) (f g : Int) (w : World) (h : (400 : Int) < l.length) : Calls Try.prog 7 #[.int .u64 b, .slice A l.length c, .int .u8 f, .int .u8 g] w fun e w' => e = .returned (.bool true) ∧ Below w.heap.size w w' := by
  go_enter Try.func7, Try.ntmps7
  go_wp2_with fail
  refine (awake_any _).mono ?_; rintro e w1 ⟨rfl, hb1⟩
  go_wp2_with fail
  refine (awake_any _).mono ?_; rintro e w2 ⟨rfl, hb2⟩
  go_wp2_with fail
  go_ret
  exact ⟨rfl, below_step hb1 hb2⟩

set_option maxHeartbeats 8000000 in
set_option maxRecDepth 100000 in
theorem calls_few (b : Int) (A : Option Addr) (c : Nat) (l : List Bool) (f g : Int) (w : World) (h : (l.length : Int) ≤ 400) (h0 : 0 ≤ b) (h1 : b ≤ 18446744073709551615) (hf0 : 0 ≤ f) (hf1 : f ≤ 255) (hg0 : 0 ≤ g) (hg1 : g ≤ 255) (hr : Kd.C Kd.bool w A l.length l) :
    Calls Try.prog 7 #[.int .u64 b, .slice A l.length c, .int .u8 f, .int .u8 g] w fun e w' => e = .returned (.bool true) ∧ Below w.heap.size w w' := by
  have hu26 := Try.underlying26
  have hbd0 : 0 ≤ b - b % 2 := by omega
  have hbd1 : b - b % 2 ≤ b := by omega
  have hbe : (b - b % 2) % 2 = 0 := by omega
  have hbd2 : b - b % 2 ≤ 18446744073709551614 := by omega
  have hN0 : ∀ w : World, Calls Try.prog 9 #[.int .u64 b] w fun e w' => e = .returned (.agg #[.int .u64 0, .int .u64 (b - b % 2)]) ∧ Below w.heap.size w w' := fun w => new_any b w h0 h1
  have hV0 : ∀ (x y : Int) (w : World), 0 ≤ x → x ≤ 18446744073709551615 → Calls Try.prog 18 #[.int .u64 x, .int .u64 y, .int .u64 b] w fun e w' => e = .returned (.bool (decide (x = y ∧ x % 2 = 0 ∧ x < b - b % 2))) ∧ Below w.heap.size w w' := fun x y w x0 x1 => valid_is x y b w x0 x1 h0 h1
  generalize hB : b - b % 2 = B at hbd0 hbd1 hbd2 hbe hN0 hV0
  clear hB
  have HBE := Lib.hid hbe
  have HN := Lib.hid hN0
  have HV := Lib.hid hV0
  clear hbe hN0 hV0
  go_enter Try.func7, Try.ntmps7
  go_wp2_with fail
  refine (awake_any _).mono ?_; rintro e w1 ⟨rfl, hb1⟩
  go_wp2_with fail
  refine (HN.out _).mono ?_; rintro e w2 ⟨rfl, hb2⟩
  have HB := Aside0.mk (below_step hb1 hb2)
  clear hb1 hb2 HN
  go_wp2_with ((with_reducible refine gate_dst (N := 9) rfl ?_); refine box_event ?hg (N := 9) ?hd (cs := #[.int .u64 0, .int .u64 0]) (t := 26) ?hr ?_; (case hd => rfl); (case hg => rfl); (case hr => first | (go_simp; done) | (go_simp; rfl)); intro gc hg w3 hbox hb; have HB3 := Aside0.mk (below_step HB.out hb); have GC := Aside0.mk (by rw [hg]; exact below_size HB.out : w.heap.size ≤ gc); have BK := Aside0.mk hbox; clear hb hbox hg HB; have hcz0 : w3.cell? ⟨gc, 0, none⟩ = some (.int .u64 0) := (blk_cell BK.out 0).trans rfl; have hcz1 : w3.cell? ⟨gc, 1, none⟩ = some (.int .u64 0) := (blk_cell BK.out 1).trans rfl; have hfz0 := blk_frozen BK.out 0; have hfz1 := blk_frozen BK.out 1)
  have BK4 := Aside0.mk (blk_put (cs' := #[.int .u64 0, .int .u64 B]) (blk_put (cs' := #[.int .u64 0, .int .u64 0]) BK.out 0 (.int .u64 0) rfl) 1 (.int .u64 B) rfl)
  have HB4 := Aside0.mk (below_set (v := .int .u64 B) (j := 1) (below_set (v := .int .u64 0) (j := 0) HB3.out GC.out) GC.out)
  clear hcz0 hcz1 hfz0 hfz1 BK HB3
  generalize (w3.setCell ⟨gc, 0, none⟩ (.int .u64 0)).setCell ⟨gc, 1, none⟩ (.int .u64 B) = W4 at BK4 HB4 ⊢
  have hc0 : W4.cell? ⟨gc, 0, none⟩ = some (.int .u64 0) := (blk_cell BK4.out 0).trans rfl
  have hc1 : W4.cell? ⟨gc, 1, none⟩ = some (.int .u64 B) := (blk_cell BK4.out 1).trans rfl
  go_cut [12, 13] (fun v12 v13 wc => ∃ gx gy : Nat, v12 = .pointer (some ⟨gx, 0, none⟩) ∧ v13 = .pointer (some ⟨gy, 0, none⟩) ∧ Aside0 (w.heap.size ≤ gx ∧ w.heap.size ≤ gy ∧ gx ≠ gc ∧ gy ≠ gc ∧ gx ≠ gy) ∧ Aside0 (wc.heap[gc]? = some (.cells #[.int .u64 0, .int .u64 B] 26 (0, 0))) ∧ Aside0 (wc.heap[gx]? = some (.cells #[.int .u64 0, .int .u64 B] 26 (0, 0))) ∧ Aside0 (wc.heap[gy]? = some (.cells #[.int .u64 0, .int .u64 B] 26 (0, 0))) ∧ Aside0 (Below w.heap.size w wc))
  case first =>
    have N1 := World.new_ne W4 _ hc0
    go_region_held3 (fun w' => w'.cell? ⟨gc, 0, none⟩ = some (.int .u64 0) ∧ w'.cell? ⟨gc, 1, none⟩ = some (.int .u64 B)) (go_keep) (fail)
    all_goals
      go_wp2_with fail
      go_meet
    all_goals
      have B1 := blk_alloc (blk_new W4 (.cells #[.int .u64 0, .int .u64 B] 26)) (.cells #[.int .u64 0, .int .u64 B] 26)
      have B2 := blk_new (W4.alloc (.cells #[.int .u64 0, .int .u64 B] 26)) (.cells #[.int .u64 0, .int .u64 B] 26)
      have B0 := blk_alloc (blk_alloc BK4.out (.cells #[.int .u64 0, .int .u64 B] 26)) (.cells #[.int .u64 0, .int .u64 B] 26)
      have hsz : (W4.alloc (.cells #[.int .u64 0, .int .u64 B] 26)).heap.size = W4.heap.size + 1 := by simp
      rw [hsz] at B2
      have hlt := blk_lt BK4.out
      have hle := below_size HB4.out
    case rel => exact ⟨W4.heap.size, W4.heap.size + 1, rfl, rfl, ⟨by omega, by omega, by omega, by omega, by omega⟩, ⟨B0⟩, ⟨B1⟩, ⟨B2⟩, ⟨below_drew (below_alloc (below_alloc HB4.out _) _)⟩⟩
    case rel => exact ⟨W4.heap.size + 1, W4.heap.size, rfl, rfl, ⟨by omega, by omega, by omega, by omega, by omega⟩, ⟨B0⟩, ⟨B2⟩, ⟨B1⟩, ⟨below_drew (below_alloc (below_alloc HB4.out _) _)⟩⟩
  case rest =>
    obtain ⟨gx, gy, rfl, rfl, HG, BC, BX, BY, HB⟩ := hcut
    clear hc0 hc1 BK4 HB4
    go_wp2_with fail
    go_loopg [14, 15] (l.length) (fun g14 v14 v15 wr => ∃ (i : Nat) (v x y : Int) (wt : Bool), v15 = .int .i64 i ∧ v14 = .bool wt ∧ i ≤ l.length ∧ g14 = l.length - i ∧ Aside0 (Inv f (f + g) B i v x y wt) ∧ Aside0 (wr.heap[gc]? = some (.cells #[.int .u64 v, .int .u64 B] 26 (0, 0))) ∧ Aside0 (wr.heap[gx]? = some (.cells #[.int .u64 x, .int .u64 B] 26 (0, 0))) ∧ Aside0 (wr.heap[gy]? = some (.cells #[.int .u64 y, .int .u64 B] 26 (0, 0))) ∧ Aside0 (Below w.heap.size w wr))
    case atStart => exact ⟨0, 0, 0, 0, false, rfl, rfl, by omega, by omega, ⟨by omega, by omega, by omega, by omega, by omega, by omega, fun _ => rfl, fun h => by omega, fun h => by omega⟩, BC, BX, BY, HB⟩
    case round =>
      clear BC BX BY HB
      obtain ⟨i, v, x, y, wt, rfl, rfl, hi, rfl, HI, BC, BX, BY, HB⟩ := hrel
      obtain ⟨v0, v1, x0, x1, y0, y1, _, _, _⟩ := HI.out
      by_cases hlt : i < l.length
      · obtain ⟨ad, rfl, hcell0⟩ := read_at hr i hlt
        have hadb := World.block_lt_of_cell? w _ hcell0
        have HC0 := Aside0.mk hcell0
        clear hcell0
        have hz0 : wr.cell? ⟨gc, 0, none⟩ = some (.int .u64 v) := (blk_cell BC.out 0).trans rfl
        have hz1 : wr.cell? ⟨gc, 1, none⟩ = some (.int .u64 B) := (blk_cell BC.out 1).trans rfl
        go_upto_if 44 with (fail)
        go_cut [14] (fun v14 wd => ∃ x' : Int, v14 = .bool wt ∧ Aside0 (x' = if (i : Int) = f then v else x) ∧ Aside0 (wd.heap[gc]? = some (.cells #[.int .u64 v, .int .u64 B] 26 (0, 0))) ∧ Aside0 (wd.heap[gx]? = some (.cells #[.int .u64 x', .int .u64 B] 26 (0, 0))) ∧ Aside0 (wd.heap[gy]? = some (.cells #[.int .u64 y, .int .u64 B] 26 (0, 0))) ∧ Aside0 (Below w.heap.size w wd))
        case first =>
          by_cases e1 : (i : Int) = f
          · have hb1 : ((i : Int) == f) = true := beq_iff_eq.2 e1
            have E1 := Lib.hid e1
            clear e1
            have hx0 : wr.cell? ⟨gx, 0, none⟩ = some (.int .u64 x) := (blk_cell BX.out 0).trans rfl
            have hx1 : wr.cell? ⟨gx, 1, none⟩ = some (.int .u64 B) := (blk_cell BX.out 1).trans rfl
            have hxf0 := blk_frozen BX.out 0
            have hxf1 := blk_frozen BX.out 1
            go_wp2_with fail
            go_meet
            case rel => exact ⟨v, rfl, ⟨(if_pos E1.out).symm⟩, ⟨blk_far (p := ⟨gx, 1, none⟩) (blk_far (p := ⟨gx, 0, none⟩) BC.out (fun e => HG.out.2.2.1 e.symm) _) (fun e => HG.out.2.2.1 e.symm) _⟩, ⟨blk_put (cs := #[.int .u64 v, .int .u64 B]) (blk_put (cs := #[.int .u64 x, .int .u64 B]) BX.out 0 _ rfl) 1 _ rfl⟩, ⟨blk_far (p := ⟨gx, 1, none⟩) (blk_far (p := ⟨gx, 0, none⟩) BY.out (fun e => HG.out.2.2.2.2 e.symm) _) (fun e => HG.out.2.2.2.2 e.symm) _⟩, ⟨below_set (below_set HB.out HG.out.1) HG.out.1⟩⟩
          · have hb1 : ((i : Int) == f) = false := beq_eq_false_iff_ne.2 e1
            have E1 := Lib.hid e1
            clear e1
            go_wp2_with fail
            go_meet
            case rel => exact ⟨x, rfl, ⟨(if_neg E1.out).symm⟩, BC, BX, BY, HB⟩
        case rest =>
          obtain ⟨x', rfl, HX, BC, BX, BY, HB⟩ := hcut
          clear hz0 hz1
          have hz0 : wc.cell? ⟨gc, 0, none⟩ = some (.int .u64 v) := (blk_cell BC.out 0).trans rfl
          have hz1 : wc.cell? ⟨gc, 1, none⟩ = some (.int .u64 B) := (blk_cell BC.out 1).trans rfl
          obtain ⟨wa, rfl⟩ : ∃ wa : World, wa = wc := ⟨_, rfl⟩
          go_upto_if 48 with (fail)
          go_cut [14] (fun v14 wd => ∃ y' : Int, v14 = .bool wt ∧ Aside0 (y' = if (i : Int) = f + g then v else y) ∧ Aside0 (wd.heap[gc]? = some (.cells #[.int .u64 v, .int .u64 B] 26 (0, 0))) ∧ Aside0 (wd.heap[gx]? = some (.cells #[.int .u64 x', .int .u64 B] 26 (0, 0))) ∧ Aside0 (wd.heap[gy]? = some (.cells #[.int .u64 y', .int .u64 B] 26 (0, 0))) ∧ Aside0 (Below w.heap.size w wd))
          case first =>
            by_cases e1 : (i : Int) = f + g
            · have hb1 : ((i : Int) == f + g) = true := beq_iff_eq.2 e1
              have E1 := Lib.hid e1
              clear e1
              have hx0 : wa.cell? ⟨gy, 0, none⟩ = some (.int .u64 y) := (blk_cell BY.out 0).trans rfl
              have hx1 : wa.cell? ⟨gy, 1, none⟩ = some (.int .u64 B) := (blk_cell BY.out 1).trans rfl
              have hxf0 := blk_frozen BY.out 0
              have hxf1 := blk_frozen BY.out 1
              go_wp2_with fail
              go_meet
              case rel => exact ⟨v, rfl, ⟨(if_pos E1.out).symm⟩, ⟨blk_far (p := ⟨gy, 1, none⟩) (blk_far (p := ⟨gy, 0, none⟩) BC.out (fun e => HG.out.2.2.2.1 e.symm) _) (fun e => HG.out.2.2.2.1 e.symm) _⟩, ⟨blk_far (p := ⟨gy, 1, none⟩) (blk_far (p := ⟨gy, 0, none⟩) BX.out HG.out.2.2.2.2 _) HG.out.2.2.2.2 _⟩, ⟨blk_put (cs := #[.int .u64 v, .int .u64 B]) (blk_put (cs := #[.int .u64 y, .int .u64 B]) BY.out 0 _ rfl) 1 _ rfl⟩, ⟨below_set (below_set HB.out HG.out.2.1) HG.out.2.1⟩⟩
            · have hb1 : ((i : Int) == f + g) = false := beq_eq_false_iff_ne.2 e1
              have E1 := Lib.hid e1
              clear e1
              go_wp2_with fail
              go_meet
              case rel => exact ⟨y, rfl, ⟨(if_neg E1.out).symm⟩, BC, BX, BY, HB⟩
          case rest =>
            clear hz0 hz1 BC BX BY HB
            obtain ⟨y', rfl, HY, BC, BX, BY, HB⟩ := hcut
            have hz0 : wc.cell? ⟨gc, 0, none⟩ = some (.int .u64 v) := (blk_cell BC.out 0).trans rfl
            have hz1 : wc.cell? ⟨gc, 1, none⟩ = some (.int .u64 B) := (blk_cell BC.out 1).trans rfl
            have hcell4 := pw_cell_below HB.out HC0.out
            obtain ⟨wb, rfl⟩ : ∃ wb : World, wb = wc := ⟨_, rfl⟩
            generalize hlb : l.getD i false = lb at hcell4
            clear hlb
            go_upto_if 54 with ((with_reducible refine gate_dst (N := 16) rfl ?_); refine box_event ?hg (N := 16) ?hd (cs := #[.int .u64 0, .int .u64 0]) (t := 26) ?hr ?_; (case hd => rfl); (case hg => rfl); (case hr => first | (go_simp; done) | (go_simp; rfl)); intro gw hg w5 hbox hb; have HB5 := Aside0.mk (below_step HB.out hb); have GW := Aside0.mk (by rw [hg]; exact below_size HB.out : w.heap.size ≤ gw); have BWD := Aside0.mk hbox; have BC5 := Aside0.mk (blk_below BC.out hb); have BX5 := Aside0.mk (blk_below BX.out hb); have BY5 := Aside0.mk (blk_below BY.out hb); have hcell5 := pw_cell_below hb hcell4; have HNE := Aside0.mk (show gc ≠ gw ∧ gx ≠ gw ∧ gy ≠ gw from ⟨by rw [hg]; exact Nat.ne_of_lt (blk_lt BC.out), by rw [hg]; exact Nat.ne_of_lt (blk_lt BX.out), by rw [hg]; exact Nat.ne_of_lt (blk_lt BY.out)⟩); have hne : gc ≠ gw := HNE.out.1; have hne2 : (ad.add i).block ≠ gw := (by have := GW.out; omega); clear hb hbox hg HB BC BX BY hcell4 hz0 hz1; have hz0 : w5.cell? ⟨gc, 0, none⟩ = some (.int .u64 v) := (blk_cell BC5.out 0).trans rfl; have hz1 : w5.cell? ⟨gc, 1, none⟩ = some (.int .u64 B) := (blk_cell BC5.out 1).trans rfl; have hdz0 : w5.cell? ⟨gw, 0, none⟩ = some (.int .u64 0) := (blk_cell BWD.out 0).trans rfl; have hdz1 : w5.cell? ⟨gw, 1, none⟩ = some (.int .u64 0) := (blk_cell BWD.out 1).trans rfl; have hcs : ((w5.setCell ⟨gw, 0, none⟩ (.int .u64 v)).setCell ⟨gw, 1, none⟩ (.int .u64 B)).cell? (ad.add i) = some (.bool lb) := (World.cell?_setCell_other _ _ _ _ (fun e => hne2 (by rw [← e]))).trans ((World.cell?_setCell_other _ _ _ _ (fun e => hne2 (by rw [← e]))).trans hcell5); have hdf0 := blk_frozen BWD.out 0; have hdf1 := blk_frozen BWD.out 1)
            have HBm := Aside0.mk (below_set (v := .int .u64 B) (j := 1) (below_set (v := .int .u64 v) (j := 0) HB5.out GW.out) GW.out)
            have BCm := Aside0.mk (blk_far (p := ⟨gw, 1, none⟩) (blk_far (p := ⟨gw, 0, none⟩) BC5.out HNE.out.1 (.int .u64 v)) HNE.out.1 (.int .u64 B))
            have BXm := Aside0.mk (blk_far (p := ⟨gw, 1, none⟩) (blk_far (p := ⟨gw, 0, none⟩) BX5.out HNE.out.2.1 (.int .u64 v)) HNE.out.2.1 (.int .u64 B))
            have BYm := Aside0.mk (blk_far (p := ⟨gw, 1, none⟩) (blk_far (p := ⟨gw, 0, none⟩) BY5.out HNE.out.2.2 (.int .u64 v)) HNE.out.2.2 (.int .u64 B))
            have BWm := Aside0.mk (blk_put (cs' := #[.int .u64 v, .int .u64 B]) (blk_put (cs' := #[.int .u64 v, .int .u64 0]) BWD.out 0 (.int .u64 v) rfl) 1 (.int .u64 B) rfl)
            clear hz0 hz1 hdz0 hdz1 hdf0 hdf1 HB5 BC5 BX5 BY5 BWD hcell5 hcs
            generalize (w5.setCell ⟨gw, 0, none⟩ (.int .u64 v)).setCell ⟨gw, 1, none⟩ (.int .u64 B) = W6 at HBm BCm BXm BYm BWm ⊢
            have hz0 : W6.cell? ⟨gc, 0, none⟩ = some (.int .u64 v) := (blk_cell BCm.out 0).trans rfl
            have hz1 : W6.cell? ⟨gc, 1, none⟩ = some (.int .u64 B) := (blk_cell BCm.out 1).trans rfl
            go_cut [14] (fun v14 wd => ∃ v' : Int, v14 = .bool wt ∧ Aside0 (v ≤ v' ∧ v' ≤ B) ∧ Aside0 (wd.heap[gw]? = some (.cells #[.int .u64 v, .int .u64 B] 26 (0, 0))) ∧ Aside0 (wd.heap[gc]? = some (.cells #[.int .u64 v', .int .u64 B] 26 (0, 0))) ∧ Aside0 (wd.heap[gx]? = some (.cells #[.int .u64 x', .int .u64 B] 26 (0, 0))) ∧ Aside0 (wd.heap[gy]? = some (.cells #[.int .u64 y', .int .u64 B] 26 (0, 0))) ∧ Aside0 (Below w.heap.size w wd))
            case first =>
              cases lb
              all_goals
                go_wp2_with fail
              · refine (end_any v B _ v0 (by omega)).mono ?_; rintro e wx ⟨rfl, hb⟩
                have HV1 : v ≤ fin v ∧ fin v ≤ B := by unfold fin; have := HBE.out; split <;> omega
                have HV2 := Aside0.mk HV1
                clear HV1
                generalize fin v = v' at HV2
                have BCn := Aside0.mk (blk_below BCm.out hb)
                have hy0 := (blk_cell BCn.out 0).trans (show (#[Value.int .u64 v, Value.int .u64 B])[0]? = some (Value.int .u64 v) from rfl)
                have hy1 := (blk_cell BCn.out 1).trans (show (#[Value.int .u64 v, Value.int .u64 B])[1]? = some (Value.int .u64 B) from rfl)
                have hf0 := blk_frozen BCn.out 0
                have hf1 := blk_frozen BCn.out 1
                have BXn := Aside0.mk (blk_far (p := ⟨gc, 1, none⟩) (blk_far (p := ⟨gc, 0, none⟩) (blk_below BXm.out hb) HG.out.2.2.1 (.int .u64 v')) HG.out.2.2.1 (.int .u64 B))
                have BYn := Aside0.mk (blk_far (p := ⟨gc, 1, none⟩) (blk_far (p := ⟨gc, 0, none⟩) (blk_below BYm.out hb) HG.out.2.2.2.1 (.int .u64 v')) HG.out.2.2.2.1 (.int .u64 B))
                have BWn := Aside0.mk (blk_far (p := ⟨gc, 1, none⟩) (blk_far (p := ⟨gc, 0, none⟩) (blk_below BWm.out hb) (fun e => HNE.out.1 e.symm) (.int .u64 v')) (fun e => HNE.out.1 e.symm) (.int .u64 B))
                have HBn := Aside0.mk (below_set (v := .int .u64 B) (j := 1) (below_set (v := .int .u64 v') (j := 0) (below_step HBm.out hb) GC.out) GC.out)
                clear hb
                go_wp2_with fail
                go_meet
                case rel => exact ⟨v', rfl, HV2, BWn, ⟨blk_put (cs := #[.int .u64 v', .int .u64 B]) (blk_put (cs := #[.int .u64 v, .int .u64 B]) BCn.out 0 _ rfl) 1 _ rfl⟩, BXn, BYn, HBn⟩
              · refine (begin_any v B _ v0 (by omega)).mono ?_; rintro e wx ⟨rfl, hb⟩
                have HV1 : v ≤ beg v B ∧ beg v B ≤ B := by unfold beg; have := HBE.out; split <;> omega
                have HV2 := Aside0.mk HV1
                clear HV1
                generalize beg v B = v' at HV2
                have BCn := Aside0.mk (blk_below BCm.out hb)
                have hy0 := (blk_cell BCn.out 0).trans (show (#[Value.int .u64 v, Value.int .u64 B])[0]? = some (Value.int .u64 v) from rfl)
                have hy1 := (blk_cell BCn.out 1).trans (show (#[Value.int .u64 v, Value.int .u64 B])[1]? = some (Value.int .u64 B) from rfl)
                have hf0 := blk_frozen BCn.out 0
                have hf1 := blk_frozen BCn.out 1
                have BXn := Aside0.mk (blk_far (p := ⟨gc, 1, none⟩) (blk_far (p := ⟨gc, 0, none⟩) (blk_below BXm.out hb) HG.out.2.2.1 (.int .u64 v')) HG.out.2.2.1 (.int .u64 B))
                have BYn := Aside0.mk (blk_far (p := ⟨gc, 1, none⟩) (blk_far (p := ⟨gc, 0, none⟩) (blk_below BYm.out hb) HG.out.2.2.2.1 (.int .u64 v')) HG.out.2.2.2.1 (.int .u64 B))
                have BWn := Aside0.mk (blk_far (p := ⟨gc, 1, none⟩) (blk_far (p := ⟨gc, 0, none⟩) (blk_below BWm.out hb) (fun e => HNE.out.1 e.symm) (.int .u64 v')) (fun e => HNE.out.1 e.symm) (.int .u64 B))
                have HBn := Aside0.mk (below_set (v := .int .u64 B) (j := 1) (below_set (v := .int .u64 v') (j := 0) (below_step HBm.out hb) GC.out) GC.out)
                clear hb
                go_wp2_with fail
                go_meet
                case rel => exact ⟨v', rfl, HV2, BWn, ⟨blk_put (cs := #[.int .u64 v', .int .u64 B]) (blk_put (cs := #[.int .u64 v, .int .u64 B]) BCn.out 0 _ rfl) 1 _ rfl⟩, BXn, BYn, HBn⟩
            case rest =>
              clear hz0 hz1 HBm BCm BXm BYm BWm
              obtain ⟨v', rfl, HV1, BW, BC, BX, BY, HB⟩ := hcut
              obtain ⟨wf, rfl⟩ : ∃ wf : World, wf = wc := ⟨_, rfl⟩
              clear HC0 HNE
              by_cases hif : f ≤ (i : Int)
              · by_cases hig : (i : Int) < f + g
                · by_cases hvv : v = v'
                  · have hv1 : (v != v') = false := by simpa using hvv
                    have HE := Lib.hid hvv
                    clear hvv
                    go_wp2_with fail
                    refine Klass.region (fun W => W.heap[gw]? = some (.cells #[.int .u64 v, .int .u64 B] 26 (0, 0)) ∧ W.heap[gc]? = some (.cells #[.int .u64 v', .int .u64 B] 26 (0, 0)) ∧ W.heap[gx]? = some (.cells #[.int .u64 x', .int .u64 B] 26 (0, 0)) ∧ W.heap[gy]? = some (.cells #[.int .u64 y', .int .u64 B] 26 (0, 0)) ∧ Below w.heap.size w W) (by kernel_rfl) (by kernel_rfl) ⟨BW.out, BC.out, BX.out, BY.out, below_drew HB.out⟩ ?_
                    intro T _ F hF0 hback0
                    have d0 : ∀ x, (F x).cell? ⟨gw, 0, none⟩ = some (.int .u64 v) := fun x => (blk_cell (hF0 x).1 0).trans rfl
                    have d1 : ∀ x, (F x).cell? ⟨gw, 1, none⟩ = some (.int .u64 B) := fun x => (blk_cell (hF0 x).1 1).trans rfl
                    have d2 : ∀ x, (F x).cell? ⟨gc, 0, none⟩ = some (.int .u64 v') := fun x => (blk_cell (hF0 x).2.1 0).trans rfl
                    have d3 : ∀ x, (F x).cell? ⟨gc, 1, none⟩ = some (.int .u64 B) := fun x => (blk_cell (hF0 x).2.1 1).trans rfl
                    have hF := Lib.hid hF0
                    have hback := Lib.hid hback0
                    clear hF0 hback0 BW BC BX BY HB
                    repeat (go_big_quiet_step ((go_at_call 14; refine (value_any _ _ _).mono ?_; rintro e wz ⟨rfl, hb⟩; exact ⟨rfl, hback.out _ ⟨blk_below (hF.out _).1 hb, blk_below (hF.out _).2.1 hb, blk_below (hF.out _).2.2.1 hb, blk_below (hF.out _).2.2.2.1 hb, below_step (hF.out _).2.2.2.2 hb⟩⟩)))
                    refine wpQuiet_nil ?_
                    intro W9 hw9
                    obtain ⟨x9, rfl⟩ := hw9
                    obtain ⟨_, BC9, BX9, BY9, HB9⟩ := hF.out x9
                    have BC := Aside0.mk BC9
                    have BX := Aside0.mk BX9
                    have BY := Aside0.mk BY9
                    have HB := Aside0.mk HB9
                    clear d0 d1 d2 d3 hF hback BC9 BX9 BY9 HB9
                    generalize F x9 = W9 at BC BX BY HB ⊢
                    go_wp2_with fail
                    go_roundg (l.length - (i + 1))
                    case measure => omega
                    case rel => exact ⟨i + 1, v', x', y', wt, by go_num, rfl, by omega, rfl, ⟨inv_step HI.out (by omega) HV1.out.1 HV1.out.2 HX.out HY.out ⟨fun q => .inl q, fun q => q.elim id (fun q => absurd HE.out q.2.2)⟩⟩, BC, BX, BY, HB⟩
                  · have hv1 : (v != v') = true := by simpa using hvv
                    have HE := Lib.hid hvv
                    clear hvv
                    go_wp2_with fail
                    refine Klass.region (fun W => W.heap[gw]? = some (.cells #[.int .u64 v, .int .u64 B] 26 (0, 0)) ∧ W.heap[gc]? = some (.cells #[.int .u64 v', .int .u64 B] 26 (0, 0)) ∧ W.heap[gx]? = some (.cells #[.int .u64 x', .int .u64 B] 26 (0, 0)) ∧ W.heap[gy]? = some (.cells #[.int .u64 y', .int .u64 B] 26 (0, 0)) ∧ Below w.heap.size w W) (by kernel_rfl) (by kernel_rfl) ⟨BW.out, BC.out, BX.out, BY.out, below_drew HB.out⟩ ?_
                    intro T _ F hF0 hback0
                    have d0 : ∀ x, (F x).cell? ⟨gw, 0, none⟩ = some (.int .u64 v) := fun x => (blk_cell (hF0 x).1 0).trans rfl
                    have d1 : ∀ x, (F x).cell? ⟨gw, 1, none⟩ = some (.int .u64 B) := fun x => (blk_cell (hF0 x).1 1).trans rfl
                    have d2 : ∀ x, (F x).cell? ⟨gc, 0, none⟩ = some (.int .u64 v') := fun x => (blk_cell (hF0 x).2.1 0).trans rfl
                    have d3 : ∀ x, (F x).cell? ⟨gc, 1, none⟩ = some (.int .u64 B) := fun x => (blk_cell (hF0 x).2.1 1).trans rfl
                    have hF := Lib.hid hF0
                    have hback := Lib.hid hback0
                    clear hF0 hback0 BW BC BX BY HB
                    repeat (go_big_quiet_step ((go_at_call 14; refine (value_any _ _ _).mono ?_; rintro e wz ⟨rfl, hb⟩; exact ⟨rfl, hback.out _ ⟨blk_below (hF.out _).1 hb, blk_below (hF.out _).2.1 hb, blk_below (hF.out _).2.2.1 hb, blk_below (hF.out _).2.2.2.1 hb, below_step (hF.out _).2.2.2.2 hb⟩⟩)))
                    refine wpQuiet_nil ?_
                    intro W9 hw9
                    obtain ⟨x9, rfl⟩ := hw9
                    obtain ⟨_, BC9, BX9, BY9, HB9⟩ := hF.out x9
                    have BC := Aside0.mk BC9
                    have BX := Aside0.mk BX9
                    have BY := Aside0.mk BY9
                    have HB := Aside0.mk HB9
                    clear d0 d1 d2 d3 hF hback BC9 BX9 BY9 HB9
                    generalize F x9 = W9 at BC BX BY HB ⊢
                    go_wp2_with fail
                    go_roundg (l.length - (i + 1))
                    case measure => omega
                    case rel => exact ⟨i + 1, v', x', y', true, by go_num, rfl, by omega, rfl, ⟨inv_step HI.out (by omega) HV1.out.1 HV1.out.2 HX.out HY.out ⟨fun _ => .inr ⟨hif, hig, HE.out⟩, fun _ => rfl⟩⟩, BC, BX, BY, HB⟩
                · have hg1 : decide ((i : Int) < f + g) = false := decide_eq_false hig
                  go_wp2_with fail
                  refine Klass.region (fun W => W.heap[gw]? = some (.cells #[.int .u64 v, .int .u64 B] 26 (0, 0)) ∧ W.heap[gc]? = some (.cells #[.int .u64 v', .int .u64 B] 26 (0, 0)) ∧ W.heap[gx]? = some (.cells #[.int .u64 x', .int .u64 B] 26 (0, 0)) ∧ W.heap[gy]? = some (.cells #[.int .u64 y', .int .u64 B] 26 (0, 0)) ∧ Below w.heap.size w W) (by kernel_rfl) (by kernel_rfl) ⟨BW.out, BC.out, BX.out, BY.out, below_drew HB.out⟩ ?_
                  intro T _ F hF0 hback0
                  have d0 : ∀ x, (F x).cell? ⟨gw, 0, none⟩ = some (.int .u64 v) := fun x => (blk_cell (hF0 x).1 0).trans rfl
                  have d1 : ∀ x, (F x).cell? ⟨gw, 1, none⟩ = some (.int .u64 B) := fun x => (blk_cell (hF0 x).1 1).trans rfl
                  have d2 : ∀ x, (F x).cell? ⟨gc, 0, none⟩ = some (.int .u64 v') := fun x => (blk_cell (hF0 x).2.1 0).trans rfl
                  have d3 : ∀ x, (F x).cell? ⟨gc, 1, none⟩ = some (.int .u64 B) := fun x => (blk_cell (hF0 x).2.1 1).trans rfl
                  have hF := Lib.hid hF0
                  have hback := Lib.hid hback0
                  clear hF0 hback0 BW BC BX BY HB
                  repeat (go_big_quiet_step (fail))
                  refine wpQuiet_nil ?_
                  intro W9 hw9
                  obtain ⟨x9, rfl⟩ := hw9
                  obtain ⟨_, BC9, BX9, BY9, HB9⟩ := hF.out x9
                  have BC := Aside0.mk BC9
                  have BX := Aside0.mk BX9
                  have BY := Aside0.mk BY9
                  have HB := Aside0.mk HB9
                  clear d0 d1 d2 d3 hF hback BC9 BX9 BY9 HB9
                  generalize F x9 = W9 at BC BX BY HB ⊢
                  go_wp2_with fail
                  go_roundg (l.length - (i + 1))
                  case measure => omega
                  case rel => exact ⟨i + 1, v', x', y', wt, by go_num, rfl, by omega, rfl, ⟨inv_step HI.out (by omega) HV1.out.1 HV1.out.2 HX.out HY.out ⟨fun q => .inl q, fun q => q.elim id (fun q => absurd q.2.1 (by omega))⟩⟩, BC, BX, BY, HB⟩
              · have hg1 : decide (f ≤ (i : Int)) = false := decide_eq_false hif
                go_wp2_with fail
                refine Klass.region (fun W => W.heap[gw]? = some (.cells #[.int .u64 v, .int .u64 B] 26 (0, 0)) ∧ W.heap[gc]? = some (.cells #[.int .u64 v', .int .u64 B] 26 (0, 0)) ∧ W.heap[gx]? = some (.cells #[.int .u64 x', .int .u64 B] 26 (0, 0)) ∧ W.heap[gy]? = some (.cells #[.int .u64 y', .int .u64 B] 26 (0, 0)) ∧ Below w.heap.size w W) (by kernel_rfl) (by kernel_rfl) ⟨BW.out, BC.out, BX.out, BY.out, below_drew HB.out⟩ ?_
                intro T _ F hF0 hback0
                have d0 : ∀ x, (F x).cell? ⟨gw, 0, none⟩ = some (.int .u64 v) := fun x => (blk_cell (hF0 x).1 0).trans rfl
                have d1 : ∀ x, (F x).cell? ⟨gw, 1, none⟩ = some (.int .u64 B) := fun x => (blk_cell (hF0 x).1 1).trans rfl
                have d2 : ∀ x, (F x).cell? ⟨gc, 0, none⟩ = some (.int .u64 v') := fun x => (blk_cell (hF0 x).2.1 0).trans rfl
                have d3 : ∀ x, (F x).cell? ⟨gc, 1, none⟩ = some (.int .u64 B) := fun x => (blk_cell (hF0 x).2.1 1).trans rfl
                have hF := Lib.hid hF0
                have hback := Lib.hid hback0
                clear hF0 hback0 BW BC BX BY HB
                repeat (go_big_quiet_step (fail))
                refine wpQuiet_nil ?_
                intro W9 hw9
                obtain ⟨x9, rfl⟩ := hw9
                obtain ⟨_, BC9, BX9, BY9, HB9⟩ := hF.out x9
                have BC := Aside0.mk BC9
                have BX := Aside0.mk BX9
                have BY := Aside0.mk BY9
                have HB := Aside0.mk HB9
                clear d0 d1 d2 d3 hF hback BC9 BX9 BY9 HB9
                generalize F x9 = W9 at BC BX BY HB ⊢
                go_wp2_with fail
                go_roundg (l.length - (i + 1))
                case measure => omega
                case rel => exact ⟨i + 1, v', x', y', wt, by go_num, rfl, by omega, rfl, ⟨inv_step HI.out (by omega) HV1.out.1 HV1.out.2 HX.out HY.out ⟨fun q => .inl q, fun q => q.elim id (fun q => absurd q.1 (by omega))⟩⟩, BC, BX, BY, HB⟩
      · by_cases hbl : (l.length : Int) ≤ f + g
        · go_wp2_with fail
          go_ret
          exact ⟨rfl, HB.out⟩
        · obtain rfl : i = l.length := by omega
          have hlast := HI.out.2.2.2.2.2.2.2.2 (by omega)
          have HL := Lib.hid hlast
          clear hlast
          by_cases hv : x = y ∧ x % 2 = 0 ∧ x < B
          · have hV2 : ∀ w : World, Calls Try.prog 18 #[.int .u64 x, .int .u64 y, .int .u64 b] w fun e w' => e = .returned (.bool true) ∧ Below w.heap.size w w' := fun w => by have := HV.out x y w x0 (by omega); rwa [decide_eq_true hv] at this
            have HV2 := Lib.hid hV2
            clear hV2
            have hwt : wt = false := by cases wt with
              | false => rfl
              | true => exact absurd hv.1 (HL.out.1 rfl)
            subst hwt
            have HVV := Lib.hid hv
            clear hv HL HI
            go_wp2_with fail
            refine Klass.region (fun W => W.heap[gx]? = some (.cells #[.int .u64 x, .int .u64 B] 26 (0, 0)) ∧ W.heap[gy]? = some (.cells #[.int .u64 y, .int .u64 B] 26 (0, 0)) ∧ Below w.heap.size w W) (by kernel_rfl) (by kernel_rfl) ⟨BX.out, BY.out, below_drew HB.out⟩ ?_
            intro T _ F hF0 hback0
            have d0 : ∀ x1, (F x1).cell? ⟨gx, 0, none⟩ = some (.int .u64 x) := fun x1 => (blk_cell (hF0 x1).1 0).trans rfl
            have d1 : ∀ x1, (F x1).cell? ⟨gx, 1, none⟩ = some (.int .u64 B) := fun x1 => (blk_cell (hF0 x1).1 1).trans rfl
            have d2 : ∀ x1, (F x1).cell? ⟨gy, 0, none⟩ = some (.int .u64 y) := fun x1 => (blk_cell (hF0 x1).2.1 0).trans rfl
            have d3 : ∀ x1, (F x1).cell? ⟨gy, 1, none⟩ = some (.int .u64 B) := fun x1 => (blk_cell (hF0 x1).2.1 1).trans rfl
            have hF := Lib.hid hF0
            have hback := Lib.hid hback0
            clear hF0 hback0 BX BY HB
            repeat (go_big_quiet_step (first | (go_at_call 14; refine (value_any _ _ _).mono ?_; rintro e wz ⟨rfl, hb⟩; exact ⟨rfl, hback.out _ ⟨blk_below (hF.out _).1 hb, blk_below (hF.out _).2.1 hb, below_step (hF.out _).2.2 hb⟩⟩) | (go_at_call 18; refine (HV2.out _).mono ?_; rintro e wz ⟨rfl, hb⟩; exact ⟨rfl, hback.out _ ⟨blk_below (hF.out _).1 hb, blk_below (hF.out _).2.1 hb, below_step (hF.out _).2.2 hb⟩⟩)))
            refine wpQuiet_nil ?_
            intro W9 hw9
            obtain ⟨x9, rfl⟩ := hw9
            obtain ⟨BX9, BY9, HB9⟩ := hF.out x9
            have BX := Aside0.mk BX9
            have BY := Aside0.mk BY9
            have HB := Aside0.mk HB9
            clear d0 d1 d2 d3 hF hback BX9 BY9 HB9
            generalize F x9 = W9 at BX BY HB ⊢
            have hx0 : W9.cell? ⟨gx, 0, none⟩ = some (.int .u64 x) := (blk_cell BX.out 0).trans rfl
            have hx1 : W9.cell? ⟨gx, 1, none⟩ = some (.int .u64 B) := (blk_cell BX.out 1).trans rfl
            have hy0 : W9.cell? ⟨gy, 0, none⟩ = some (.int .u64 y) := (blk_cell BY.out 0).trans rfl
            have hy1 : W9.cell? ⟨gy, 1, none⟩ = some (.int .u64 B) := (blk_cell BY.out 1).trans rfl
            go_wp2_with fail
            refine (writing_no x B _ x0 (by omega) HVV.out.2.1).mono ?_; rintro e wz ⟨rfl, hb⟩
            have BX2 := Aside0.mk (blk_below BX.out hb)
            have BY2 := Aside0.mk (blk_below BY.out hb)
            have HB2 := Aside0.mk (below_step HB.out hb)
            clear hb BX BY HB hx0 hx1 hy0 hy1
            have BX := BX2
            have BY := BY2
            have HB := HB2
            clear BX2 BY2 HB2
            have hx0 : wz.cell? ⟨gx, 0, none⟩ = some (.int .u64 x) := (blk_cell BX.out 0).trans rfl
            have hx1 : wz.cell? ⟨gx, 1, none⟩ = some (.int .u64 B) := (blk_cell BX.out 1).trans rfl
            have hy0 : wz.cell? ⟨gy, 0, none⟩ = some (.int .u64 y) := (blk_cell BY.out 0).trans rfl
            have hy1 : wz.cell? ⟨gy, 1, none⟩ = some (.int .u64 B) := (blk_cell BY.out 1).trans rfl
            obtain ⟨wq, rfl⟩ : ∃ wq : World, wq = wz := ⟨_, rfl⟩
            go_wp2_with fail
            refine (writing_no y B _ y0 (by omega) (HVV.out.1 ▸ HVV.out.2.1)).mono ?_; rintro e wz ⟨rfl, hb⟩
            have BX2 := Aside0.mk (blk_below BX.out hb)
            have BY2 := Aside0.mk (blk_below BY.out hb)
            have HB2 := Aside0.mk (below_step HB.out hb)
            clear hb BX BY HB hx0 hx1 hy0 hy1
            have BX := BX2
            have BY := BY2
            have HB := HB2
            clear BX2 BY2 HB2
            have hx0 : wz.cell? ⟨gx, 0, none⟩ = some (.int .u64 x) := (blk_cell BX.out 0).trans rfl
            have hx1 : wz.cell? ⟨gx, 1, none⟩ = some (.int .u64 B) := (blk_cell BX.out 1).trans rfl
            have hy0 : wz.cell? ⟨gy, 0, none⟩ = some (.int .u64 y) := (blk_cell BY.out 0).trans rfl
            have hy1 : wz.cell? ⟨gy, 1, none⟩ = some (.int .u64 B) := (blk_cell BY.out 1).trans rfl
            obtain ⟨wq, rfl⟩ : ∃ wq : World, wq = wz := ⟨_, rfl⟩
            go_wp2_with fail
            refine (spent_no x B _ HVV.out.2.2).mono ?_; rintro e wz ⟨rfl, hb⟩
            go_wp2_with fail
            go_ret
            exact ⟨rfl, below_step HB.out hb⟩
          · have hV2 : ∀ w : World, Calls Try.prog 18 #[.int .u64 x, .int .u64 y, .int .u64 b] w fun e w' => e = .returned (.bool false) ∧ Below w.heap.size w w' := fun w => by have := HV.out x y w x0 (by omega); rwa [decide_eq_false hv] at this
            have HV2 := Lib.hid hV2
            clear hV2
            have HVV := Lib.hid hv
            clear hv HL HI
            go_wp2_with fail
            refine Klass.region (fun W => W.heap[gx]? = some (.cells #[.int .u64 x, .int .u64 B] 26 (0, 0)) ∧ W.heap[gy]? = some (.cells #[.int .u64 y, .int .u64 B] 26 (0, 0)) ∧ Below w.heap.size w W) (by kernel_rfl) (by kernel_rfl) ⟨BX.out, BY.out, below_drew HB.out⟩ ?_
            intro T _ F hF0 hback0
            have d0 : ∀ x1, (F x1).cell? ⟨gx, 0, none⟩ = some (.int .u64 x) := fun x1 => (blk_cell (hF0 x1).1 0).trans rfl
            have d1 : ∀ x1, (F x1).cell? ⟨gx, 1, none⟩ = some (.int .u64 B) := fun x1 => (blk_cell (hF0 x1).1 1).trans rfl
            have d2 : ∀ x1, (F x1).cell? ⟨gy, 0, none⟩ = some (.int .u64 y) := fun x1 => (blk_cell (hF0 x1).2.1 0).trans rfl
            have d3 : ∀ x1, (F x1).cell? ⟨gy, 1, none⟩ = some (.int .u64 B) := fun x1 => (blk_cell (hF0 x1).2.1 1).trans rfl
            have hF := Lib.hid hF0
            have hback := Lib.hid hback0
            clear hF0 hback0 BX BY HB
            repeat (go_big_quiet_step (first | (go_at_call 14; refine (value_any _ _ _).mono ?_; rintro e wz ⟨rfl, hb⟩; exact ⟨rfl, hback.out _ ⟨blk_below (hF.out _).1 hb, blk_below (hF.out _).2.1 hb, below_step (hF.out _).2.2 hb⟩⟩) | (go_at_call 18; refine (HV2.out _).mono ?_; rintro e wz ⟨rfl, hb⟩; exact ⟨rfl, hback.out _ ⟨blk_below (hF.out _).1 hb, blk_below (hF.out _).2.1 hb, below_step (hF.out _).2.2 hb⟩⟩)))
            refine wpQuiet_nil ?_
            intro W9 hw9
            obtain ⟨x9, rfl⟩ := hw9
            obtain ⟨BX9, BY9, HB9⟩ := hF.out x9
            have BX := Aside0.mk BX9
            have BY := Aside0.mk BY9
            have HB := Aside0.mk HB9
            clear d0 d1 d2 d3 hF hback BX9 BY9 HB9
            generalize F x9 = W9 at BX BY HB ⊢
            have hx0 : W9.cell? ⟨gx, 0, none⟩ = some (.int .u64 x) := (blk_cell BX.out 0).trans rfl
            have hx1 : W9.cell? ⟨gx, 1, none⟩ = some (.int .u64 B) := (blk_cell BX.out 1).trans rfl
            have hy0 : W9.cell? ⟨gy, 0, none⟩ = some (.int .u64 y) := (blk_cell BY.out 0).trans rfl
            have hy1 : W9.cell? ⟨gy, 1, none⟩ = some (.int .u64 B) := (blk_cell BY.out 1).trans rfl
            clear hx0 hx1 hy0 hy1
            by_cases exy : x = y
            · have n1 : (x != y) = false := by simpa using exy
              have EXY := Lib.hid exy
              clear exy
              by_cases e2 : x % 2 = 0
              · have E2 := Lib.hid e2
                clear e2
                have hsp : B ≤ x := by
                  by_cases e3 : x < B
                  · exact absurd ⟨EXY.out, E2.out, e3⟩ HVV.out
                  · omega
                go_wp2_with fail
                refine Klass.region (fun W => W.heap[gx]? = some (.cells #[.int .u64 x, .int .u64 B] 26 (0, 0)) ∧ W.heap[gy]? = some (.cells #[.int .u64 y, .int .u64 B] 26 (0, 0)) ∧ Below w.heap.size w W) (by kernel_rfl) (by kernel_rfl) ⟨BX.out, BY.out, below_drew HB.out⟩ ?_
                intro T _ F hF0 hback0
                have d0 : ∀ x1, (F x1).cell? ⟨gx, 0, none⟩ = some (.int .u64 x) := fun x1 => (blk_cell (hF0 x1).1 0).trans rfl
                have d1 : ∀ x1, (F x1).cell? ⟨gx, 1, none⟩ = some (.int .u64 B) := fun x1 => (blk_cell (hF0 x1).1 1).trans rfl
                have d2 : ∀ x1, (F x1).cell? ⟨gy, 0, none⟩ = some (.int .u64 y) := fun x1 => (blk_cell (hF0 x1).2.1 0).trans rfl
                have d3 : ∀ x1, (F x1).cell? ⟨gy, 1, none⟩ = some (.int .u64 B) := fun x1 => (blk_cell (hF0 x1).2.1 1).trans rfl
                have hF := Lib.hid hF0
                have hback := Lib.hid hback0
                clear hF0 hback0 BX BY HB
                repeat (go_big_quiet_step (first | (go_at_call 14; refine (value_any _ _ _).mono ?_; rintro e wz ⟨rfl, hb⟩; exact ⟨rfl, hback.out _ ⟨blk_below (hF.out _).1 hb, blk_below (hF.out _).2.1 hb, below_step (hF.out _).2.2 hb⟩⟩) | (go_at_call 17; refine (writing_no _ _ _ x0 (by omega) E2.out).mono ?_; rintro e wz ⟨rfl, hb⟩; exact ⟨rfl, hback.out _ ⟨blk_below (hF.out _).1 hb, blk_below (hF.out _).2.1 hb, below_step (hF.out _).2.2 hb⟩⟩) | (go_at_call 15; refine (spent_yes _ _ _ hsp).mono ?_; rintro e wz ⟨rfl, hb⟩; exact ⟨rfl, hback.out _ ⟨blk_below (hF.out _).1 hb, blk_below (hF.out _).2.1 hb, below_step (hF.out _).2.2 hb⟩⟩)))
                refine wpQuiet_nil ?_
                intro W9 hw9
                obtain ⟨x9, rfl⟩ := hw9
                obtain ⟨BX9, BY9, HB9⟩ := hF.out x9
                have BX := Aside0.mk BX9
                have BY := Aside0.mk BY9
                have HB := Aside0.mk HB9
                clear d0 d1 d2 d3 hF hback BX9 BY9 HB9
                generalize F x9 = W9 at BX BY HB ⊢
                have hx0 : W9.cell? ⟨gx, 0, none⟩ = some (.int .u64 x) := (blk_cell BX.out 0).trans rfl
                have hx1 : W9.cell? ⟨gx, 1, none⟩ = some (.int .u64 B) := (blk_cell BX.out 1).trans rfl
                have hy0 : W9.cell? ⟨gy, 0, none⟩ = some (.int .u64 y) := (blk_cell BY.out 0).trans rfl
                have hy1 : W9.cell? ⟨gy, 1, none⟩ = some (.int .u64 B) := (blk_cell BY.out 1).trans rfl
                go_wp2_with fail
                go_ret
                exact ⟨rfl, HB.out⟩
              · have hw1 : ∀ w : World, Calls Try.prog 17 #[.agg #[.int .u64 x, .int .u64 B]] w fun e w' => e = .returned (.bool true) ∧ Below w.heap.size w w' := fun w => by have := writing_is x B w x0 (by omega); rwa [decide_eq_true (by omega)] at this
                have HW := Lib.hid hw1
                clear hw1 e2
                go_wp2_with fail
                refine Klass.region (fun W => W.heap[gx]? = some (.cells #[.int .u64 x, .int .u64 B] 26 (0, 0)) ∧ W.heap[gy]? = some (.cells #[.int .u64 y, .int .u64 B] 26 (0, 0)) ∧ Below w.heap.size w W) (by kernel_rfl) (by kernel_rfl) ⟨BX.out, BY.out, below_drew HB.out⟩ ?_
                intro T _ F hF0 hback0
                have d0 : ∀ x1, (F x1).cell? ⟨gx, 0, none⟩ = some (.int .u64 x) := fun x1 => (blk_cell (hF0 x1).1 0).trans rfl
                have d1 : ∀ x1, (F x1).cell? ⟨gx, 1, none⟩ = some (.int .u64 B) := fun x1 => (blk_cell (hF0 x1).1 1).trans rfl
                have d2 : ∀ x1, (F x1).cell? ⟨gy, 0, none⟩ = some (.int .u64 y) := fun x1 => (blk_cell (hF0 x1).2.1 0).trans rfl
                have d3 : ∀ x1, (F x1).cell? ⟨gy, 1, none⟩ = some (.int .u64 B) := fun x1 => (blk_cell (hF0 x1).2.1 1).trans rfl
                have hF := Lib.hid hF0
                have hback := Lib.hid hback0
                clear hF0 hback0 BX BY HB
                repeat (go_big_quiet_step (first | (go_at_call 14; refine (value_any _ _ _).mono ?_; rintro e wz ⟨rfl, hb⟩; exact ⟨rfl, hback.out _ ⟨blk_below (hF.out _).1 hb, blk_below (hF.out _).2.1 hb, below_step (hF.out _).2.2 hb⟩⟩) | (go_at_call 17; refine (HW.out _).mono ?_; rintro e wz ⟨rfl, hb⟩; exact ⟨rfl, hback.out _ ⟨blk_below (hF.out _).1 hb, blk_below (hF.out _).2.1 hb, below_step (hF.out _).2.2 hb⟩⟩)))
                refine wpQuiet_nil ?_
                intro W9 hw9
                obtain ⟨x9, rfl⟩ := hw9
                obtain ⟨BX9, BY9, HB9⟩ := hF.out x9
                have BX := Aside0.mk BX9
                have BY := Aside0.mk BY9
                have HB := Aside0.mk HB9
                clear d0 d1 d2 d3 hF hback BX9 BY9 HB9
                generalize F x9 = W9 at BX BY HB ⊢
                have hx0 : W9.cell? ⟨gx, 0, none⟩ = some (.int .u64 x) := (blk_cell BX.out 0).trans rfl
                have hx1 : W9.cell? ⟨gx, 1, none⟩ = some (.int .u64 B) := (blk_cell BX.out 1).trans rfl
                have hy0 : W9.cell? ⟨gy, 0, none⟩ = some (.int .u64 y) := (blk_cell BY.out 0).trans rfl
                have hy1 : W9.cell? ⟨gy, 1, none⟩ = some (.int .u64 B) := (blk_cell BY.out 1).trans rfl
                go_wp2_with fail
                go_ret
                exact ⟨rfl, HB.out⟩
            · have n1 : (x != y) = true := by simpa using exy
              clear exy
              go_wp2_with fail
              refine Klass.region (fun W => W.heap[gx]? = some (.cells #[.int .u64 x, .int .u64 B] 26 (0, 0)) ∧ W.heap[gy]? = some (.cells #[.int .u64 y, .int .u64 B] 26 (0, 0)) ∧ Below w.heap.size w W) (by kernel_rfl) (by kernel_rfl) ⟨BX.out, BY.out, below_drew HB.out⟩ ?_
              intro T _ F hF0 hback0
              have d0 : ∀ x1, (F x1).cell? ⟨gx, 0, none⟩ = some (.int .u64 x) := fun x1 => (blk_cell (hF0 x1).1 0).trans rfl
              have d1 : ∀ x1, (F x1).cell? ⟨gx, 1, none⟩ = some (.int .u64 B) := fun x1 => (blk_cell (hF0 x1).1 1).trans rfl
              have d2 : ∀ x1, (F x1).cell? ⟨gy, 0, none⟩ = some (.int .u64 y) := fun x1 => (blk_cell (hF0 x1).2.1 0).trans rfl
              have d3 : ∀ x1, (F x1).cell? ⟨gy, 1, none⟩ = some (.int .u64 B) := fun x1 => (blk_cell (hF0 x1).2.1 1).trans rfl
              have hF := Lib.hid hF0
              have hback := Lib.hid hback0
              clear hF0 hback0 BX BY HB
              repeat (go_big_quiet_step (((go_at_call 14; refine (value_any _ _ _).mono ?_; rintro e wz ⟨rfl, hb⟩; exact ⟨rfl, hback.out _ ⟨blk_below (hF.out _).1 hb, blk_below (hF.out _).2.1 hb, below_step (hF.out _).2.2 hb⟩⟩))))
              refine wpQuiet_nil ?_
              intro W9 hw9
              obtain ⟨x9, rfl⟩ := hw9
              obtain ⟨BX9, BY9, HB9⟩ := hF.out x9
              have BX := Aside0.mk BX9
              have BY := Aside0.mk BY9
              have HB := Aside0.mk HB9
              clear d0 d1 d2 d3 hF hback BX9 BY9 HB9
              generalize F x9 = W9 at BX BY HB ⊢
              have hx0 : W9.cell? ⟨gx, 0, none⟩ = some (.int .u64 x) := (blk_cell BX.out 0).trans rfl
              have hx1 : W9.cell? ⟨gx, 1, none⟩ = some (.int .u64 B) := (blk_cell BX.out 1).trans rfl
              have hy0 : W9.cell? ⟨gy, 0, none⟩ = some (.int .u64 y) := (blk_cell BY.out 0).trans rfl
              have hy1 : W9.cell? ⟨gy, 1, none⟩ = some (.int .u64 B) := (blk_cell BY.out 1).trans rfl
              go_wp2_with fail
              go_ret
              exact ⟨rfl, HB.out⟩
theorem walk (b : Int) (A : Option Addr) (c : Nat) (l : List Bool) (f g : Int) (w : World) (wb : (Lit.int .u64 b).wf = true) (hr : Kd.C Kd.bool w A l.length l) (_ : l.length ≤ c) (_ : ∀ y ∈ l, True) (wf : (Lit.int .u8 f).wf = true) (wg : (Lit.int .u8 g).wf = true) :
    Calls Try.prog 7 #[.int .u64 b, .slice A l.length c, .int .u8 f, .int .u8 g] w fun e w' => e = .returned (.bool true) ∧ Below w.heap.size w w' := by
  obtain ⟨h0, h1⟩ := bounds_u64 wb
  obtain ⟨f0, f1⟩ := bounds_u8 wf
  obtain ⟨g0, g1⟩ := bounds_u8 wg
  by_cases h : (400 : Int) < l.length
  · exact calls_long b A c l f g w h
  · exact calls_few b A c l f g w (by omega) h0 h1 f0 f1 g0 g1 hr
end Go.Proofs.Ytghhjmdolmadeaa.CellSaw
