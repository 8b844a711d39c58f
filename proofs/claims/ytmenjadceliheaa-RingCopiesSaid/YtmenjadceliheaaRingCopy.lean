/- The contract of Copy. -/
import Derived.Test.YtmenjadceliheaaRingSame
import Derived.StillTailTactics
namespace Go.Proofs.Ytmenjadceliheaa.RingInt
open Go.RowKit Go.Proofs.Ytmenjadceliheaa.RingInv Go.Proofs.YtmenjadceliheaaW.PrintWords Go.Proofs.YtmenjadceliheaaW.PrintLast
attribute [local go_sem ↓] Go.wp_at_zero Go.wp_at_succ
theorem below_trans1 {W w1 : World} (h : W.drew.grownBy w1 none) : Below W.heap.size W w1 := ⟨h.os, h.tape, h.output, h.size, fun k hk => h.block k hk (by simp)⟩
set_option maxHeartbeats 8000000 in
set_option maxRecDepth 100000 in
theorem copy_any {W : World} {g : Nat} {room : Int} {xs : List Int} {lost : Bool} {F : Nat → Prop} (hI : Is W g room xs lost F) (hlen : xs.length ≤ 1000000) :
    Calls Try.prog 21 #[.pointer (some ⟨g, 0, none⟩)] W fun e w' => ∃ h, e = .returned (.pointer (some ⟨h, 0, none⟩)) ∧ Is w' h room xs lost (fun k => W.heap.size ≤ k ∧ k < w'.heap.size) ∧ Below W.heap.size W w' := by
  obtain ⟨hF, hlt', v, hb, hR⟩ := hI
  obtain ⟨A, c, rfl, _, hC⟩ := R_C hR
  have BK := Aside0.mk hb
  have HC := Aside0.mk hC
  have c0 := (blk_cell hb 0).trans (show _ = some (Value.int .i64 room) from rfl)
  have c1 := (blk_cell hb 1).trans (show _ = some (Value.slice A xs.length c) from rfl)
  have c2 := (blk_cell hb 2).trans (show _ = some (Value.bool lost) from rfl)
  clear hb hR hC hlt' hF
  obtain ⟨i0, hi, hz0, hz1, hz2⟩ := info_parts infoE
  obtain ⟨w1, hmk, hown, hgr⟩ := run_makeSlice_full (P := Try.prog) (w := W.drew) W.heap.size 26 3 i0 (.int .i64 0) 1 Try.underlying26 hi hz0 hz1 .i64 .i64 xs.length (by omega) (by rw [hz2]; omega) (by simp only [maxLen]; omega) (Nat.le_refl _)
  clear hz0 hz1 hz2 hi
  have hbw : Below W.heap.size W w1 := below_trans1 hgr
  have k0 := pw_cell_below hbw c0
  have k1 := pw_cell_below hbw c1
  have k2 := pw_cell_below hbw c2
  have HBW := Aside0.mk hbw
  have HOWN := Aside0.mk hown
  clear hbw hown hgr
  go_enter Try.func21, Try.ntmps21
  go_wp2_with fail
  go_region_held3 (fun w' => w'.cell? ⟨g, 0, none⟩ = some (.int .i64 room) ∧ w'.cell? ⟨g, 1, none⟩ = some (.slice A xs.length c) ∧ w'.cell? ⟨g, 2, none⟩ = some (.bool lost)) (go_keep) (fail)
  have HW := Lib.hid (show Kd.R (Kd.int .i64) 3 w1 W.heap.size (fun k => W.heap.size ≤ k) (.slice (some ⟨W.heap.size, 0, none⟩) xs.length xs.length) (List.replicate xs.length 0) from by
    refine ⟨fun k hk => ?_, _, by rw [List.length_replicate]; exact HOWN.out, Kd.reps_made (z := .int .i64 0) (size := 1) (z0 := (0 : Int)) rfl (by decide) rfl xs.length⟩
    have : W.heap.size = k := by simpa [Value.ownBlock] using hk
    omega)
  have HS1 := Lib.hid (show W.heap.size < w1.heap.size from by
    rcases HOWN.out.2 with ⟨h, _⟩ | ⟨g', cap', cur', h, _, hh, _⟩
    · cases h
    · injection h with h1 _ _
      injection h1 with h1
      injection h1 with h1 _ _
      have := blk_lt hh
      rw [← h1] at this
      exact this)
  obtain ⟨W2, hW2⟩ : ∃ W2, W2 = w1.alloc (.cells #[.int .i64 room, .slice (some ⟨W.heap.size, 0, none⟩) xs.length xs.length, .bool lost] 51) := ⟨_, rfl⟩
  rw [← hW2]
  have BK2 := Aside0.mk (show W2.heap[w1.heap.size]? = some (.cells #[.int .i64 room, .slice (some ⟨W.heap.size, 0, none⟩) xs.length xs.length, .bool lost] 51 (0, 0)) by rw [hW2]; exact blk_new _ _)
  have HB2 := Aside0.mk (show Below W.heap.size W W2 by rw [hW2]; exact below_alloc HBW.out _)
  have HR2 := Aside0.mk (show Kd.R (Kd.int .i64) 3 W2 W.heap.size (fun k => W.heap.size ≤ k) (.slice (some ⟨W.heap.size, 0, none⟩) xs.length xs.length) (List.replicate xs.length 0) by rw [hW2]; exact Kd.R_alloc HW.out _)
  have HC2 := Aside0.mk (Kd.C_below HC.out HB2.out)
  have j1 := pw_cell_below HB2.out c1
  have j2 := (blk_cell BK2.out 1).trans (show _ = some (Value.slice (some ⟨W.heap.size, 0, none⟩) xs.length xs.length) from rfl)
  clear hW2 HW HOWN hmk k0 k1 k2 c0 c1 c2
  have HSZ := Lib.hid HS1.out
  generalize w1.heap.size = hh at BK2 j2 HSZ ⊢
  go_wp2_with fail
  go_still_tail 8, (by kernel_rfl)
  change wpList _ _ _ _ _ W2.drew
  obtain ⟨W3, hW3⟩ : ∃ W3, W3 = W2.drew := ⟨_, rfl⟩
  rw [← hW3]
  have BK3 := Aside0.mk (show W3.heap[hh]? = some (.cells #[.int .i64 room, .slice (some ⟨W.heap.size, 0, none⟩) xs.length xs.length, .bool lost] 51 (0, 0)) by rw [hW3]; exact blk_drew BK2.out)
  have HR3 := Aside0.mk (show Kd.R (Kd.int .i64) 3 W3 W.heap.size (fun k => W.heap.size ≤ k) (.slice (some ⟨W.heap.size, 0, none⟩) xs.length xs.length) (List.replicate xs.length 0) by rw [hW3]; exact Kd.R_drew HR2.out)
  have HC3 := Aside0.mk (show Kd.C (Kd.int .i64) W3 A xs.length xs by rw [hW3]; exact Kd.C_drew HC2.out)
  have HB3 := Aside0.mk (show Below W.heap.size W W3 by rw [hW3]; exact below_drew HB2.out)
  have i1 : W3.cell? ⟨g, 1, none⟩ = some (.slice A xs.length c) := by rw [hW3]; exact j1
  have i2 : W3.cell? ⟨hh, 1, none⟩ = some (.slice (some ⟨W.heap.size, 0, none⟩) xs.length xs.length) := by rw [hW3]; exact j2
  clear hW3 j1 j2 HR2 HC2 HB2 BK2
  refine Kd.R_copy (enc := Value.int .i64) (h1 := fun _ => rfl) 0 (w0 := W) W.heap.size rfl (.tmp 23) (.tmp 27) 26 26 3 rfl Try.underlying26 (by kernel_rfl) (.slice (some ⟨W.heap.size, 0, none⟩) xs.length xs.length) (List.replicate xs.length 0) xs A xs.length c (fun k => W.heap.size ≤ k) rfl rfl HR3.out HC3.out HB3.out HB3.out.size ?_
  intro w5 ho hb hg
  have HO := Aside0.mk ho
  have HB5 := Aside0.mk hb
  have HG := Lib.hid hg
  clear ho hb hg
  go_wp2_with fail
  go_ret
  have hl : xs.take (min xs.length (List.replicate xs.length (0 : Int)).length) ++ (List.replicate xs.length (0 : Int)).drop (min xs.length (List.replicate xs.length (0 : Int)).length) = xs := by
    rw [List.length_replicate, Nat.min_self, List.take_length, List.drop_eq_nil_of_le (by simp), List.append_nil]
  have ho := HO.out
  rw [hl] at ho
  have hgt := HSZ.out
  have b5 := blk_grown BK3.out HG.out (by simp [Value.ownBlock]; omega)
  exact ⟨hh, rfl, ⟨⟨by omega, blk_lt b5⟩, fun k hk => hk.2, _, b5, Kd.R_lower (Kd.R_mono (Kd.R_bound ho) (fun k hk => ⟨hk.1, hk.2.2.1⟩)) (Nat.zero_le _)⟩, HB5.out⟩
end Go.Proofs.Ytmenjadceliheaa.RingInt
