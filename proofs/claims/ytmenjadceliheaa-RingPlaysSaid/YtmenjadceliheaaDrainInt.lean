/- The contract of Drain at int: 'for x := range r.All() { out = append(out, x) }'. The iterator's part and the caller's are turned from the kit's worked range-over-a-function texts. -/
import Derived.Test.YtmenjadceliheaaRingInt
import Derived.RangeFuncBox
import Derived.RangeFuncLeaves
import Derived.Shelf.Abstract
import Derived.WalkKit
import Derived.OwnWalkIn
import Derived.TacticsInMore
import Derived.LoopNIn
import Derived.LoopIn
import Derived.Maps.AppendAt
namespace Go.Proofs.Ytmenjadceliheaa.RingInt
open Go.RowKit Go.Shelf Go.Proofs.Ytmenjadceliheaa.RingInv Go.Proofs.YtmenjadceliheaaW.PrintWords Go.Proofs.YtmenjadceliheaaW.PrintLast
attribute [local go_sem] Oper.semAt_some
/-- What has come when k rounds are over. -/
def upto {α : Type} (f : Nat → α) (k : Nat) : List α := (List.range k).map f
theorem upto_succ {α : Type} (f : Nat → α) (k : Nat) : upto f (k + 1) = upto f k ++ [f k] := by simp [upto, List.range_succ]
theorem upto_length {α : Type} (f : Nat → α) (k : Nat) : (upto f k).length = k := by simp [upto]
theorem upto_all (zs : List Int) : upto (fun j => zs[j]?.getD 0) zs.length = zs := by
  apply List.ext_getElem
  · simp [upto]
  · intro i h1 h2
    simp [upto, h2]
theorem upto_take (zs : List Int) {k : Nat} (hk : k ≤ zs.length) : upto (fun j => zs[j]?.getD 0) k = zs.take k := by
  apply List.ext_getElem
  · simp [upto, hk]
  · intro i h1 h2
    have : i < zs.length := by simp [upto] at h1; omega
    simp [upto, this]
set_option maxRecDepth 100000 in
set_option maxHeartbeats 2000000 in
/-- The closure of All, over whatever body that keeps what lay below n₀. -/
theorem all1_in (F : Fence) (n : Nat) (h7 : F.fn 22) (hro : F.round = none) (hn : 1 ≤ n) (l Bs rb n₀ b len cap : Nat) (zs : List Int) (hreach : len ≤ 1000000) (hb : b < n₀) (J Jx : List Int → World → Prop)
    (hY : ∀ pre x W, J pre W → pre.length < len → YieldAt F (n - 1) Try.prog l #[.int .i64 x] W fun e W' =>
      (e = .returned (.bool true) ∧ J (pre ++ [x]) W' ∧ Below n₀ W W') ∨ (e = .returned (.bool false) ∧ Jx (pre ++ [x]) W'))
    (W : World) (hBs : W.cell? ⟨Bs, 0, none⟩ = some (.pointer (some ⟨rb, 0, none⟩))) (hrb : W.cell? ⟨rb, 1, none⟩ = some (.slice (some ⟨b, 0, none⟩) len cap)) (hc : ∀ j, j < len → W.cell? ⟨b, j, none⟩ = some (.int .i64 (zs[j]?.getD 0))) (h0 : J [] W) :
    CallsIn F n Try.prog 22 #[.func (.yield l) #[] #[], .pointer (some ⟨Bs, 0, none⟩)] W fun e W' => (∃ v, e = .returned v) ∧
      ((∃ ys, ys = upto (fun j => zs[j]?.getD 0) len ∧ J ys W') ∨ (∃ pre, (∃ k, k ≤ len ∧ pre = upto (fun j => zs[j]?.getD 0) k) ∧ Jx pre W')) := by
  refine callsIn_of_wp Try.func22 rfl h7 ?_ hro
  simp only [Try.ntmps22, List.size_toArray, List.length_cons, List.length_nil, Nat.reduceAdd, Nat.reduceSub, Array.replicate_succ, Array.replicate_zero, List.push_toArray, List.append_toArray, List.nil_append, List.cons_append]
  gi_wp2
  gi_loopw [10] (fun i wr => ∃ k : Nat, k ≤ len ∧ i = .int .i64 k ∧ J (upto (fun j => zs[j]?.getD 0) k) wr ∧ Below n₀ W wr)
    (fun i _ => len - (intOf i).toNat)
  case atStart => exact ⟨0, Nat.zero_le _, rfl, h0, Below.refl _ _⟩
  case round =>
    obtain ⟨k, hk, rfl, hJs, hnx⟩ := hrel
    have hcx : k < len → wr.cell? ⟨b, k, none⟩ = some (.int .i64 (zs[k]?.getD 0)) := fun h => (hnx.cell (p := ⟨b, k, none⟩) hb).trans (hc k h)
    by_cases hlt : k < len
    · obtain ⟨fn, tmps, assign, body, hy, hR⟩ := hY _ (zs[k]?.getD 0) wr hJs (by rw [upto_length]; exact hlt)
      have hcx' := hcx hlt
      gi_wp2
      refine hR.mono ?_
      rintro e W3 (⟨rfl, hJ3, hk3⟩ | ⟨rfl, hJx3⟩)
      · gi_wp2
        go_roundw
        case rel => exact ⟨k + 1, by omega, by simp, by rw [upto_succ]; exact hJ3, hnx.trans hk3⟩
        case measure => simp [intOf]; omega
      · gi_wp2
        refine bodyPost_ret (results_none rfl _ _ _) rfl ?_
        exact ⟨⟨_, rfl⟩, .inr ⟨_, ⟨k + 1, by omega, (upto_succ _ _).symm⟩, hJx3⟩⟩
    · obtain rfl : k = len := by omega
      gi_wp2
      go_end0
      exact ⟨⟨_, rfl⟩, .inl ⟨_, rfl, hJs⟩⟩
set_option maxRecDepth 100000 in
set_option maxHeartbeats 1000000 in
theorem all1_nil_in (F : Fence) (n : Nat) (h7 : F.fn 22) (hro : F.round = none) (l Bs rb : Nat) (J : List Int → World → Prop) (W : World) (hBs : W.cell? ⟨Bs, 0, none⟩ = some (.pointer (some ⟨rb, 0, none⟩))) (hrb : W.cell? ⟨rb, 1, none⟩ = some (.slice none 0 0)) (h0 : J [] W) :
    CallsIn F n Try.prog 22 #[.func (.yield l) #[] #[], .pointer (some ⟨Bs, 0, none⟩)] W fun e W' => (∃ v, e = .returned v) ∧ J [] W' := by
  refine callsIn_of_wp Try.func22 rfl h7 ?_ hro
  simp only [Try.ntmps22, List.size_toArray, List.length_cons, List.length_nil, Nat.reduceAdd, Nat.reduceSub, Array.replicate_succ, Array.replicate_zero, List.push_toArray, List.append_toArray, List.nil_append, List.cons_append]
  gi_wp2
  gi_loopw [10] (fun i wr => i = .int .i64 0 ∧ J [] wr) (fun _ _ => 0)
  case atStart => exact ⟨rfl, h0⟩
  case round =>
    obtain ⟨rfl, hJs⟩ := hrel
    gi_wp2
    go_end0
    exact ⟨⟨_, rfl⟩, hJs⟩
set_option maxHeartbeats 1000000 in
theorem all_in (F : Fence) (n : Nat) (h5 : F.fn 14) (hro : F.round = none) (p0 : Option Addr) (w : World) :
    CallsIn F n Try.prog 14 #[.pointer p0] w fun e w' => e = .returned (.func (.func 22) #[] #[.pointer (some ⟨w.heap.size, 0, none⟩)]) ∧ w' = w.alloc (.cells #[.pointer p0] 24) := by
  refine callsIn_of_wp Try.func14 rfl h5 ?_ hro
  simp only [Try.ntmps14, List.size_toArray, List.length_cons, List.length_nil, Nat.reduceAdd, Nat.reduceSub, Array.replicate_succ, Array.replicate_zero, List.push_toArray, List.append_toArray, List.nil_append, List.cons_append]
  gi_wp2
  go_ret
  exact ⟨rfl, rfl⟩
/-- The slice value holds zs, in a block below n₀; or it is nil and there are none. -/
def Holds (n₀ : Nat) (W : World) (sv : Value) (zs : List Int) : Prop :=
  (sv = .slice none 0 0 ∧ zs = []) ∨ ∃ b cap, sv = .slice (some ⟨b, 0, none⟩) zs.length cap ∧ b < n₀ ∧ ∀ j, j < zs.length → W.cell? ⟨b, j, none⟩ = some (.int .i64 (zs[j]?.getD 0))
theorem Holds.below {n₀ : Nat} {A B : World} (h : Below n₀ A B) {sv : Value} {zs : List Int} : Holds n₀ A sv zs → Holds n₀ B sv zs
  | .inl e => .inl e
  | .inr ⟨b, cap, e, hb, hc⟩ => .inr ⟨b, cap, e, hb, fun j hj => (h.cell (p := ⟨b, j, none⟩) hb).trans (hc j hj)⟩
theorem R_holds {W : World} {base : Nat} {ok : Nat → Prop} {v : Value} {xs : List Int} (h : Kd.R (Kd.int .i64) 3 W base ok v xs) : Holds W.heap.size W v xs := by
  obtain ⟨A, c, e, _, hC⟩ := R_C h
  obtain ⟨inner, hown, _⟩ := h.2
  rcases hown.2 with ⟨hv, hn⟩ | ⟨g, cap, cur, hv, _, hh, _⟩
  · exact .inl ⟨hv, List.eq_nil_of_length_eq_zero hn⟩
  · refine .inr ⟨g, cap, hv, blk_lt hh, fun j hj => ?_⟩
    rw [e] at hv
    injection hv with e1 _ _
    subst e1
    obtain ⟨ad, ea, hc⟩ := hC.2.2 (by omega)
    injection ea with ea
    subst ea
    obtain ⟨cs, _, hK, hcell⟩ := hc j _ (List.getElem?_eq_getElem hj)
    have hK' : cs = [.int .i64 xs[j]] := hK
    subst hK'
    have := hcell 0 _ rfl
    rw [List.getElem?_eq_getElem hj, Option.getD_some]
    rw [add_at] at this
    simpa [Kd.int, Kd.scalar] using this
/-- r.All() stops at each of the row's elements. -/
theorem all_stops (F : Fence) (n : Nat) (h7 : F.fn 22) (hro : F.round = none) (hn : 1 ≤ n) (Bs rb n₀ : Nat) (sv : Value) (zs : List Int) (hreach : zs.length ≤ 1000000) (w : World) (hBs : Bs < w.heap.size) (hn₀ : n₀ ≤ w.heap.size) (hrb : rb < w.heap.size)
    (hc : w.cell? ⟨Bs, 0, none⟩ = some (.pointer (some ⟨rb, 0, none⟩))) (hr : w.cell? ⟨rb, 1, none⟩ = some sv) (hI : Holds n₀ w sv zs) :
    SeqStopsK F n Try.prog 22 #[.pointer (some ⟨Bs, 0, none⟩)] (fun x : Int => #[.int .i64 x]) (Below n₀) (fun ys => ys = zs) (fun pre => pre <+: zs) zs.length w := fun l J Jx W hW _ _ hY h0 => by
  have hc' := (hW.cell (p := ⟨Bs, 0, none⟩) hBs).trans hc
  have hr' := (hW.cell (p := ⟨rb, 1, none⟩) hrb).trans hr
  rcases hI.below (hW.mono hn₀) with ⟨rfl, rfl⟩ | ⟨b, cap, rfl, hb, hcs⟩
  · exact (all1_nil_in F n h7 hro l Bs rb J W hc' hr' h0).mono fun e W' ⟨he, hj⟩ => ⟨he, .inl ⟨_, rfl, hj⟩⟩
  · refine (all1_in F n h7 hro hn l Bs rb n₀ b zs.length cap zs hreach hb J Jx hY W hc' hr' hcs h0).mono ?_
    rintro e W' ⟨he, ⟨ys, rfl, hj⟩ | ⟨pre, ⟨k, hk, rfl⟩, hj⟩⟩
    · exact ⟨he, .inl ⟨_, upto_all zs, hj⟩⟩
    · exact ⟨he, .inr ⟨_, by rw [upto_take zs hk]; exact List.take_prefix _ _, hj⟩⟩
set_option maxRecDepth 100000 in
set_option maxHeartbeats 4000000 in
theorem drain_in (F : Fence) (n : Nat) (h3 : F.fn 10) (h4 : F.fn 14) (h5 : F.fn 22) (hro : F.round = none) (hn : 3 ≤ n) (rb : Nat) (room : Int) (sv : Value) (lost : Bool) (xs : List Int) (hlen : xs.length ≤ 1000000) (w : World)
    (hb : w.heap[rb]? = some (.cells #[.int .i64 room, sv, .bool lost] 51 (0, 0))) (hL : Holds w.heap.size w sv xs) :
    CallsIn F n Try.prog 10 #[.pointer (some ⟨rb, 0, none⟩)] w fun e W' => ∃ v, e = .returned (.tuple #[v, .bool lost]) ∧ W'.ownsRow w.heap.size 3 1 v xs.length (xs.map (Value.int .i64)) ∧
      W'.heap[rb]? = some (.cells #[.int .i64 room, .slice none 0 0, .bool false] 51 (0, 0)) ∧ Below 0 w W' ∧ ∀ k, k < w.heap.size → k ≠ rb → W'.heap[k]? = w.heap[k]? := by
  have h1 : 1 ≤ n := by omega
  have hrbl := blk_lt hb
  obtain ⟨i0, hi, hz0, hz1, hz2⟩ := info_parts infoE
  refine callsIn_of_wp_marks Try.func10 rfl h3 ?_ hro
  simp only [Try.ntmps10, List.size_toArray, List.length_cons, List.length_nil, Nat.reduceAdd, Nat.reduceSub, Array.replicate_succ, Array.replicate_zero, List.push_toArray, List.append_toArray, List.nil_append, List.cons_append]
  gi_wp2_with (gi_at_call 14; refine (all_in F (n - 1) h4 hro _ _).mono ?_; rintro e w' ⟨rfl, rfl⟩)
  have bO := Boxed.new w 26 (.slice none 0 0)
  have bN := Boxed.new (w.alloc (.cells #[.slice none 0 0] 26)) 24 (.pointer (some ⟨rb, 0, none⟩))
  rw [World.size_alloc] at bN
  have hB0 : Below w.heap.size w ((w.alloc (.cells #[.slice none 0 0] 26)).alloc (.cells #[.pointer (some ⟨rb, 0, none⟩)] 24)) := ((Below.refl _ w).alloc (Nat.le_refl _) _).alloc (by simp) _
  have hr1 : ((w.alloc (.cells #[.slice none 0 0] 26)).alloc (.cells #[.pointer (some ⟨rb, 0, none⟩)] 24)).cell? ⟨rb, 1, none⟩ = some sv := (hB0.cell (p := ⟨rb, 1, none⟩) hrbl).trans ((blk_cell hb 1).trans rfl)
  refine wpIn_rangeFunc_ownG hro h1 (gf := 22) (lb := #[.pointer (some ⟨w.heap.size + 1, 0, none⟩)]) rfl h5 (enters_of Try.func22 (by kernel_rfl) rfl)
    (all_stops F (n - 1) h5 hro (by omega) (w.heap.size + 1) rb w.heap.size sv xs hlen _ (by simp) (by simp; omega) (by simp; omega) bN.cell hr1 (hL.below hB0)) belowK_t (belowK_b (by simp; omega)) (Below.refl _ _) (fun _ => rfl)
    (fun pre W => (∃ v, Boxed W w.heap.size 26 v ∧ W.ownsRow w.heap.size 3 1 v pre.length (pre.map (Value.int .i64)) ∧ True) ∧ Below w.heap.size w W)
    (fun _ _ _ => False)
    (OwnFrom.and (Own.from (holdsRow_own w.heap.size w.heap.size 26 3 1 (fun pre : List Int => pre.length) (fun pre => pre.map (Value.int .i64)) (fun _ _ => True)) _) (ownFrom_below (Nat.le_refl _) (by simp; omega)))
    (fun _ _ _ _ _ hs _ _ => hs)
    ⟨⟨_, bO.alloc _, World.ownsRow_nil _ _ _ _, trivial⟩, hB0⟩
    (fun x => { tmps := #[.pointer (some ⟨rb, 0, none⟩), undef, .slice none 0 0, .bool false, .pointer (some ⟨w.heap.size, 0, none⟩), .int .i64 x, undef, .pointer (some ⟨rb, 0, none⟩), .func (.func 22) #[] #[.pointer (some ⟨w.heap.size + 1, 0, none⟩)], .int .i64 x, undef, undef, undef, undef, undef, undef, undef, undef, undef, undef, undef, undef, undef, undef, undef, undef], defers := [] }) ?assign ?body ?done ?stop
  case assign =>
    intro l x W K hK
    gi_wp2
    exact hK
  case body =>
    rintro l pre x W ⟨⟨v, hv, hrow, _⟩, hB⟩ hlt
    have hc := hv.cell
    have hml : pre.length + 1 ≤ maxLen := by simp only [maxLen]; omega
    have hmb : (pre.length + 1) * 8 ≤ 140737488355328 := by omega
    gi_wp2_with (gi_at_builtin; refine wpListIn_append_own _ rfl _ _ 26 rfl w.heap.size 3 i0 (.int .i64 0) 1 8 Try.underlying26 hi hz0 hz1 hz2 rfl (by decide) _ _ _ rfl (hrow.alloc _) ⟨W.heap.size, 0, none⟩ 1 1 [.int .i64 x] rfl rfl (cell_one_new _ _ _) (by simp [Value.oneCell']) (by omega) (by omega) (by have := hB.size; simp; omega) ?_; intro v' w1 hown' hgrow _; obtain ⟨g', cap', rfl⟩ := ownsRow_succ hown'; obtain ⟨hv1, hv2, hr2, hk2, hb2⟩ := hv.appended (by decide) hrow hB.size (Nat.le_refl _) hown' hgrow; have hc1 := hv1.cell; have hf1 := hv1.frozen)
    exact ⟨hk2.from _, hb2, ⟨_, hv2, by simpa using hr2, trivial⟩, hB.trans hb2⟩
  case done =>
    rintro D ys W hD rfl ⟨⟨v, hv, hrow, _⟩, hB⟩ hK
    have hc := hv.cell
    have hb1 := (hB.block rb hrbl).trans hb
    have c1 := (blk_cell hb1 1).trans rfl
    have c2 := (blk_cell hb1 2).trans rfl
    have f1 := blk_frozen hb1 1
    have f2 := blk_frozen hb1 2
    gi_wp2
    simp only [World.size_alloc] at hD
    have hDr : D ≠ rb := by omega
    have ht : ∀ k, k ≠ rb → ((W.setCell ⟨rb, 1, none⟩ (.slice none 0 0)).setCell ⟨rb, 2, none⟩ (.bool false)).heap[k]? = W.heap[k]? := fun k hk =>
      (Below.heap_setCell _ ⟨rb, 2, none⟩ _ k hk).trans (Below.heap_setCell _ ⟨rb, 1, none⟩ _ k hk)
    have hK2 := (ht D hDr).trans hK
    have hb2 := blk_put (blk_put hb1 1 (.slice none 0 0) rfl) 2 (.bool false) rfl
    have hS : ((W.setCell ⟨rb, 1, none⟩ (.slice none 0 0)).setCell ⟨rb, 2, none⟩ (.bool false)).heap.size = W.heap.size := by simp [World.setCell]
    generalize hW2 : (W.setCell ⟨rb, 1, none⟩ (.slice none 0 0)).setCell ⟨rb, 2, none⟩ (.bool false) = W2 at *
    have hB2 : Below 0 w W2 := by
      rw [← hW2]
      exact (⟨hB.os, hB.tape, hB.output, hB.size, fun _ hk => by omega⟩ : Below 0 w W) |>.setCell (p := ⟨rb, 1, none⟩) (Nat.zero_le _) _ |>.setCell (p := ⟨rb, 2, none⟩) (Nat.zero_le _) _
    have hp : ∀ k, k ≠ D → (W2.putObj D (.deferred none)).heap[k]? = W2.heap[k]? := fun k hk => by
      simp only [World.putObj]
      rw [Array.getElem?_setIfInBounds, if_neg (Ne.symm hk)]
    refine ⟨by simp, .inl ⟨_, _, rfl, run_takeDeferred hK2, ?_⟩⟩
    refine ⟨_, results_tmp2 rfl _ _ _, v, rfl, ?_, (hp rb (Ne.symm hDr)).trans hb2, ⟨hB2.os, hB2.tape, hB2.output, by simp only [World.putObj, Array.size_setIfInBounds]; exact hB2.size, fun _ hk => by omega⟩, fun k hk hkr => (hp k (by omega)).trans ((ht k hkr).trans (hB.block k hk))⟩
    refine own_move hrow fun k hk => ?_
    obtain ⟨cs, hcs⟩ := own_typed hrow k hk
    have hkD : k ≠ D := fun h => by
      subst h
      rw [hcs] at hK
      cases hK
    have hkr : k ≠ rb := fun h => by
      subst h
      rcases hrow.2 with ⟨rfl, _⟩ | ⟨g, cap, cur, rfl, hg, _⟩
      · simp [Value.ownBlock] at hk
      · have : g = k := by simpa [Value.ownBlock] using hk
        omega
    exact (hp k hkD).trans (ht k hkr)
  case stop =>
    rintro D c pre W _ _ h _
    exact h.elim
theorem R_of_own {W : World} {base : Nat} {v : Value} {xs : List Int} (h : W.ownsRow base 3 1 v xs.length (xs.map (Value.int .i64))) : Kd.R (Kd.int .i64) 3 W base (fun k => base ≤ k ∧ k < W.heap.size) v xs := by
  refine ⟨fun k hk => ?_, xs.map (Value.int .i64), h, by simp [Kd.int, Kd.scalar], fun j p hj => ?_⟩
  · rcases h.2 with ⟨rfl, _⟩ | ⟨g, cap, cur, rfl, hg, hh, _⟩
    · simp [Value.ownBlock] at hk
    · have : g = k := by simpa [Value.ownBlock] using hk
      subst this
      exact ⟨hg, blk_lt hh⟩
  · have e : (xs.map (Value.int .i64))[j]? = some ((Value.int .i64) p) := by rw [List.getElem?_map, hj]; rfl
    have e1 : List.take 1 (List.drop (j * 1) (xs.map (Value.int .i64))) = [(Value.int .i64) p] := by
      rw [Nat.mul_one]
      obtain ⟨hl, hv⟩ := List.getElem?_eq_some_iff.1 e
      rw [List.drop_eq_getElem_cons hl, hv]
      rfl
    exact e1
/-- Drain: all that was in it, and whether something was lost; it is empty. -/
theorem drain_any {W : World} {g : Nat} {room : Int} {xs : List Int} {lost : Bool} {F : Nat → Prop} (hI : Is W g room xs lost F) (hlen : xs.length ≤ 1000000) :
    Calls Try.prog 10 #[.pointer (some ⟨g, 0, none⟩)] W fun e w' => ∃ v, e = .returned (.tuple #[v, .bool lost]) ∧ Is w' g room [] false (fun k => k = g) ∧ Keeps W w' (fun k => k = g) ∧ Kd.R (Kd.int .i64) 3 w' W.heap.size (fun k => W.heap.size ≤ k ∧ k < w'.heap.size) v xs := by
  obtain ⟨_, _, v, hb, hR⟩ := hI
  have h := callsIn_wide.1 (drain_in Fence.wide 3 trivial trivial trivial rfl (Nat.le_refl _) g room v lost xs hlen W hb (R_holds hR))
  refine h.mono ?_
  rintro e w' ⟨v', he, hown, hb', hB, hk⟩
  exact ⟨v', he, ⟨rfl, fun k hk => by rw [hk]; exact blk_lt hb', _, hb', Kd.R_nil _ _ _ _ _⟩, ⟨hB, hB.size, fun k h1 h2 => hk k h1 h2⟩, R_of_own hown⟩
end Go.Proofs.Ytmenjadceliheaa.RingInt
