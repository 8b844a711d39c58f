/- The walk of hash.Stripes: which stripes any users are in, as a row of the call's own. -/
import Derived.Test.YtbhngcjiciinpaaHashCommon
import Derived.Laws.Rows
import Derived.Lib.Hide
import Derived.Outline
namespace Go.Proofs.Ytbhngcjiciinpaa.HashCommon
open Go.RowKit Go.Proofs.Ytbhngcjiciinpaa.PHashStripes Go.Proofs.YtbhngcjiciinpaaW.PrintWords Go.Proofs.YtbhngcjiciinpaaW.PrintLast
def marks (l : List ByteArray) (n : Int) : Array Value := ((List.range 8).map fun s => Value.bool (hasSt l n s)).toArray
theorem marks_nil (n : Int) : marks [] n = #[.bool false, .bool false, .bool false, .bool false, .bool false, .bool false, .bool false, .bool false] := rfl
theorem marks_get (l : List ByteArray) (n : Int) (k : Nat) (hk : k < 8) : (marks l n)[k]? = some (.bool (hasSt l n k)) := by
  unfold marks
  rw [List.getElem?_toArray, List.getElem?_map, List.getElem?_range hk]
  rfl
theorem hasSt_snoc (l : List ByteArray) (u : ByteArray) (n : Int) (s : Nat) : hasSt (l ++ [u]) n s = (hasSt l n s || decide (st u n = (s : Int))) := by
  unfold hasSt
  rw [List.any_append]
  simp
theorem marks_hit (l : List ByteArray) (u : ByteArray) (n : Int) (j : Nat) (hj : st u n = (j : Int)) : (marks l n).setIfInBounds j (.bool true) = marks (l ++ [u]) n := by
  apply Array.ext_getElem?
  intro k
  by_cases hk : k < 8
  · rw [marks_get _ _ _ hk, hasSt_snoc, Array.getElem?_setIfInBounds]
    by_cases e : j = k
    · subst e
      rw [if_pos rfl, if_pos (by simp [marks, hk]), decide_eq_true hj, Bool.or_true]
    · rw [if_neg e, marks_get _ _ _ hk, decide_eq_false (by omega), Bool.or_false]
  · rw [Array.getElem?_eq_none (by simp [marks]; omega), Array.getElem?_eq_none (by simp [marks]; omega)]
theorem marks_miss (l : List ByteArray) (u : ByteArray) (n : Int) (h8 : 8 ≤ st u n) : marks (l ++ [u]) n = marks l n := by
  apply Array.ext_getElem?
  intro k
  by_cases hk : k < 8
  · rw [marks_get _ _ _ hk, marks_get _ _ _ hk, hasSt_snoc, decide_eq_false (by omega), Bool.or_false]
  · rw [Array.getElem?_eq_none (by simp [marks]; omega), Array.getElem?_eq_none (by simp [marks]; omega)]
theorem read_str {w : World} {A : Option Addr} {l : List ByteArray} (hr : Kd.C Kd.string w A l.length l) (i : Nat) (hi : i < l.length) : ∃ ad, A = some ad ∧ w.cell? (ad.add i) = some (.string l[i]) := by
  obtain ⟨ad, e, hc⟩ := hr.2.2 (by omega)
  obtain ⟨c, hs, hK, hcell⟩ := hc i _ (List.getElem?_eq_getElem hi)
  have hK' : c = [.string l[i]] := hK
  subst hK'
  refine ⟨ad, e, ?_⟩
  have := hcell 0 _ rfl
  simpa [Kd.string, Kd.scalar] using this

/-- The stripes below k. -/
def upTo (l : List ByteArray) (n : Int) (k : Nat) : List Int := ((List.range k).filter (hasSt l n)).map fun s : Nat => (s : Int)
theorem upTo_len (l : List ByteArray) (n : Int) (k : Nat) : (upTo l n k).length ≤ k := by
  unfold upTo
  rw [List.length_map]
  have := List.length_filter_le (hasSt l n) (List.range k)
  simpa using this
theorem upTo_hit (l : List ByteArray) (n : Int) (k : Nat) (h : hasSt l n k = true) : upTo l n (k + 1) = upTo l n k ++ [(k : Int)] := by
  unfold upTo
  rw [List.range_succ, List.filter_append, List.map_append, List.filter_cons, if_pos h]
  rfl
theorem upTo_miss (l : List ByteArray) (n : Int) (k : Nat) (h : hasSt l n k = false) : upTo l n (k + 1) = upTo l n k := by
  unfold upTo
  rw [List.range_succ, List.filter_append, List.map_append, List.filter_cons, if_neg (by rw [h]; decide)]
  simp
theorem ix0 : ∀ (b0 b1 b2 b3 b4 b5 b6 b7 : Bool) (W : World), (Instr.index 39 (.agg #[.bool b0, .bool b1, .bool b2, .bool b3, .bool b4, .bool b5, .bool b6, .bool b7]) (.int .i64 0)).run Try.prog W = .ok (.bool b0) W := fun _ _ _ _ _ _ _ _ _ => rfl
theorem ix1 : ∀ (b0 b1 b2 b3 b4 b5 b6 b7 : Bool) (W : World), (Instr.index 39 (.agg #[.bool b0, .bool b1, .bool b2, .bool b3, .bool b4, .bool b5, .bool b6, .bool b7]) (.int .i64 1)).run Try.prog W = .ok (.bool b1) W := fun _ _ _ _ _ _ _ _ _ => rfl
theorem ix2 : ∀ (b0 b1 b2 b3 b4 b5 b6 b7 : Bool) (W : World), (Instr.index 39 (.agg #[.bool b0, .bool b1, .bool b2, .bool b3, .bool b4, .bool b5, .bool b6, .bool b7]) (.int .i64 2)).run Try.prog W = .ok (.bool b2) W := fun _ _ _ _ _ _ _ _ _ => rfl
theorem ix3 : ∀ (b0 b1 b2 b3 b4 b5 b6 b7 : Bool) (W : World), (Instr.index 39 (.agg #[.bool b0, .bool b1, .bool b2, .bool b3, .bool b4, .bool b5, .bool b6, .bool b7]) (.int .i64 3)).run Try.prog W = .ok (.bool b3) W := fun _ _ _ _ _ _ _ _ _ => rfl
theorem ix4 : ∀ (b0 b1 b2 b3 b4 b5 b6 b7 : Bool) (W : World), (Instr.index 39 (.agg #[.bool b0, .bool b1, .bool b2, .bool b3, .bool b4, .bool b5, .bool b6, .bool b7]) (.int .i64 4)).run Try.prog W = .ok (.bool b4) W := fun _ _ _ _ _ _ _ _ _ => rfl
theorem ix5 : ∀ (b0 b1 b2 b3 b4 b5 b6 b7 : Bool) (W : World), (Instr.index 39 (.agg #[.bool b0, .bool b1, .bool b2, .bool b3, .bool b4, .bool b5, .bool b6, .bool b7]) (.int .i64 5)).run Try.prog W = .ok (.bool b5) W := fun _ _ _ _ _ _ _ _ _ => rfl
theorem ix6 : ∀ (b0 b1 b2 b3 b4 b5 b6 b7 : Bool) (W : World), (Instr.index 39 (.agg #[.bool b0, .bool b1, .bool b2, .bool b3, .bool b4, .bool b5, .bool b6, .bool b7]) (.int .i64 6)).run Try.prog W = .ok (.bool b6) W := fun _ _ _ _ _ _ _ _ _ => rfl
theorem ix7 : ∀ (b0 b1 b2 b3 b4 b5 b6 b7 : Bool) (W : World), (Instr.index 39 (.agg #[.bool b0, .bool b1, .bool b2, .bool b3, .bool b4, .bool b5, .bool b6, .bool b7]) (.int .i64 7)).run Try.prog W = .ok (.bool b7) W := fun _ _ _ _ _ _ _ _ _ => rfl
theorem index_at (l : List ByteArray) (n : Int) (k : Nat) (hk : k < 8) (W : World) : (Instr.index 39 (.agg (marks l n)) (.int .i64 (k : Int))).run Try.prog W = .ok (.bool (hasSt l n k)) W := by
  have e : marks l n = #[.bool (hasSt l n 0), .bool (hasSt l n 1), .bool (hasSt l n 2), .bool (hasSt l n 3), .bool (hasSt l n 4), .bool (hasSt l n 5), .bool (hasSt l n 6), .bool (hasSt l n 7)] := rfl
  rw [e]
  generalize hasSt l n = f
  match k, hk with
  | 0, _ => exact ix0 _ _ _ _ _ _ _ _ _
  | 1, _ => exact ix1 _ _ _ _ _ _ _ _ _
  | 2, _ => exact ix2 _ _ _ _ _ _ _ _ _
  | 3, _ => exact ix3 _ _ _ _ _ _ _ _ _
  | 4, _ => exact ix4 _ _ _ _ _ _ _ _ _
  | 5, _ => exact ix5 _ _ _ _ _ _ _ _ _
  | 6, _ => exact ix6 _ _ _ _ _ _ _ _ _
  | 7, _ => exact ix7 _ _ _ _ _ _ _ _ _
set_option maxHeartbeats 4000000 in
set_option maxRecDepth 100000 in
theorem stripes_any (l : List ByteArray) (A : Option Addr) (c : Nat) (n : Int) (w : World) (hl : (l.length : Int) ≤ 1000000) (hr : Kd.C Kd.string w A l.length l) (hsz : ∀ s ∈ l, s.size ≤ 1000000) (hn : n ≤ 9223372036854775807) :
    Calls Try.prog 16 #[.slice A l.length c, .int .i64 n] w fun e w' => ∃ v, e = .returned v ∧ Kd.R (Kd.int .i64) 3 w' w.heap.size (fun _ => True) v (stripes l n) ∧ Below w.heap.size w w' := by
  have HZ := Lib.hid hsz
  clear hsz
  have HB := Aside0.mk (Below.refl w.heap.size w)
  go_enter Try.func16, Try.ntmps16
  go_wp2_with ((with_reducible refine gate_dst (N := 5) rfl ?_); refine box_event ?hg (N := 5) ?hd (cs := #[.bool false, .bool false, .bool false, .bool false, .bool false, .bool false, .bool false, .bool false]) (t := 39) ?hr ?_; (case hd => rfl); (case hg => rfl); (case hr => first | (go_simp; done) | (go_simp; rfl)); intro gb hg w3 hbox hb; have HB3 := Aside0.mk (below_step HB.out hb); have GB := Aside0.mk (by rw [hg]; exact below_size HB.out : w.heap.size ≤ gb); have BK := Aside0.mk hbox; clear hb hbox hg HB)
  go_loopg [14] (l.length) (fun g v14 wr => ∃ i : Nat, v14 = .int .i64 i ∧ i ≤ l.length ∧ g = l.length - i ∧ Aside0 (wr.heap[gb]? = some (.cells (marks (l.take i) n) 39 (0, 0))) ∧ Aside0 (Below w.heap.size w wr))
  case atStart => exact ⟨0, rfl, by omega, by omega, BK, HB3⟩
  case round =>
    clear BK HB3
    obtain ⟨i, rfl, hi, rfl, BK, HB⟩ := hrel
    by_cases hlt : i < l.length
    · obtain ⟨ad, rfl, hcell0⟩ := read_str hr i hlt
      have hcell := pw_cell_below HB.out hcell0
      have hu : l[i].size ≤ 1000000 := HZ.out _ (List.getElem_mem hlt)
      have HT := Lib.hid (List.take_succ_eq_append_getElem hlt)
      clear hcell0
      generalize l[i] = u at hcell hu HT
      go_wp2_with fail
      refine (stripe_any u n _ (by omega) hn).mono ?_; rintro e w' ⟨rfl, m, rfl⟩
      obtain ⟨b0, b1, _⟩ := st_bd u n hn
      obtain ⟨j, hj⟩ := Int.eq_ofNat_of_zero_le b0
      have HJ := Lib.hid hj
      rw [hj] at b0 b1 ⊢
      clear hj
      by_cases h8 : j < 8
      · have hc8 : wr.cell? ⟨gb, j, none⟩ = some (.bool (hasSt (l.take i) n j)) := (blk_cell BK.out j).trans (marks_get _ _ _ h8)
        have hf8 := blk_frozen BK.out j
        go_wp2_with fail
        go_roundg (l.length - (i + 1))
        case measure => omega
        case rel => exact ⟨i + 1, by go_num, by omega, rfl, ⟨by rw [HT.out]; exact blk_put BK.out j _ (marks_hit _ _ _ _ HJ.out)⟩, ⟨below_set (pw_below_drewN HB.out _) GB.out⟩⟩
      · go_wp2_with fail
        go_roundg (l.length - (i + 1))
        case measure => omega
        case rel => exact ⟨i + 1, by go_num, by omega, rfl, ⟨by rw [HT.out, marks_miss _ _ _ (by rw [HJ.out]; omega)]; exact BK.out⟩, ⟨pw_below_drewN HB.out _⟩⟩
    · obtain rfl : i = l.length := by omega
      rw [List.take_length] at BK
      go_wp2_with (refine wpList_load_row rfl 39 _ rfl gb rfl 39 (marks l n) (0, 0) _ BK.out Try.underlying39 rfl (by kernel_rfl) ?_)
      obtain ⟨wa, rfl⟩ : ∃ wa : World, wa = wr := ⟨_, rfl⟩
      go_loopg [9, 27] (8) (fun g v9 v27 wr => ∃ k : Nat, v27 = .int .i64 k ∧ k ≤ 8 ∧ g = 8 - k ∧ Aside0 (Kd.R (Kd.int .i64) 3 wr w.heap.size (fun _ => True) v9 (upTo l n k)) ∧ Aside0 (Below w.heap.size w wr))
      case atStart => exact ⟨0, rfl, by omega, by omega, ⟨Kd.R_nil _ _ _ _ _⟩, HB⟩
      case round =>
        clear BK HB
        obtain ⟨k, rfl, hk, rfl, HO, HB⟩ := hrel
        by_cases hlt : k < 8
        · have hidx := index_at l n k hlt
          cases hb : hasSt l n k with
          | true =>
            rw [hb] at hidx
            have HH := Lib.hid hb
            clear hb
            go_wp2_with ((with_reducible refine gate_builtin (b := .append) (xs := #[.tmp 32, .tmp 34]) rfl ?_); at_builtin; refine Kd.R_append (Kd.int .i64) (w0 := w) w.heap.size rfl (.tmp 32) (.tmp 34) 31 3 (.int .i64 0) 8 rfl Try.underlying31 info3 rfl (by decide) (by omega) u9 (upTo l n k) (k : Int) [.int .i64 k] (fun _ => True) (fun _ => False) rfl rfl ?aP (fun _ hk => hk.elim) ?aF ?aO ?aB ?aS ?aL ?_; (case aP => exact rfl); (case aB => exact HB.out); (case aF => exact (fun _ _ => trivial)); (case aO => exact HO.out); (case aS => exact below_size HB.out); (case aL => have := upTo_len l n k; omega); intro v1 w10 ho hb hg hat; have HO1 := Aside0.mk ho; have HB1 := Aside0.mk hb; clear ho hb hg hat HO HB)
            go_roundg (8 - (k + 1))
            case measure => omega
            case rel => exact ⟨k + 1, by go_num, by omega, rfl, ⟨by rw [upTo_hit l n k HH.out]; exact HO1.out⟩, HB1⟩
          | false =>
            rw [hb] at hidx
            have HH := Lib.hid hb
            clear hb
            go_wp2_with fail
            go_roundg (8 - (k + 1))
            case measure => omega
            case rel => exact ⟨k + 1, by go_num, by omega, rfl, ⟨by rw [upTo_miss l n k HH.out]; exact HO.out⟩, HB⟩
        · obtain rfl : k = 8 := by omega
          go_wp2_with fail
          go_ret
          exact ⟨u9, rfl, HO.out, HB.out⟩
end Go.Proofs.Ytbhngcjiciinpaa.HashCommon
