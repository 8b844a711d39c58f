/- The contracts of New, Put, Len, Lost at int. -/
import Derived.Test.YtmenjadceliheaaRingInv
namespace Go.Proofs.Ytmenjadceliheaa.RingInt
open Go.RowKit Go.Proofs.Ytmenjadceliheaa.RingInv Go.Proofs.YtmenjadceliheaaW.PrintWords Go.Proofs.YtmenjadceliheaaW.PrintLast
abbrev Is (W : World) (g : Nat) (room : Int) (xs : List Int) (lost : Bool) (F : Nat → Prop) : Prop := IsR (Kd.int .i64) 3 51 W g room xs lost F
theorem infoE : (Try.prog.info? 3).map (fun i => (i.zero, i.size, i.bytes)) = some (some (.int .i64 0), 1, 8) := by kernel_rfl
set_option maxHeartbeats 4000000 in
theorem new_any (a : Int) (w : World) : Calls Try.prog 9 #[.int .i64 a] w fun e w' => ∃ g, e = .returned (.pointer (some ⟨g, 0, none⟩)) ∧ Is w' g (if a ≤ 0 then 0 else a) [] false (fun k => w.heap.size ≤ k ∧ k < w'.heap.size) ∧ Below w.heap.size w w' := by
  have fin : ∀ m : Int, Is (w.alloc (.cells #[.int .i64 m, .slice none 0 0, .bool false] 51)) w.heap.size m [] false (fun k => w.heap.size ≤ k ∧ k < (w.alloc (.cells #[.int .i64 m, .slice none 0 0, .bool false] 51)).heap.size) := fun m =>
    ⟨⟨Nat.le_refl _, by simp⟩, fun k h => h.2, _, blk_new _ _, Kd.R_nil _ _ _ _ _⟩
  have Fin := Lib.hid fin
  clear fin
  by_cases h : a < 0
  · rw [if_pos (by omega)]
    go_enter Try.func9, Try.ntmps9
    go_wp2_with fail
    go_ret
    exact ⟨_, rfl, Fin.out 0, below_alloc (Below.refl _ _) _⟩
  · rw [show (if a ≤ 0 then 0 else a) = a by split <;> omega]
    go_enter Try.func9, Try.ntmps9
    go_wp2_with fail
    go_ret
    exact ⟨_, rfl, Fin.out a, below_alloc (Below.refl _ _) _⟩
set_option maxHeartbeats 4000000 in
theorem len_any {W : World} {g : Nat} {room : Int} {xs : List Int} {lost : Bool} {F : Nat → Prop} (hI : Is W g room xs lost F) : Calls Try.prog 16 #[.pointer (some ⟨g, 0, none⟩)] W fun e w' => e = .returned (.int .i64 xs.length) ∧ w' = W := by
  obtain ⟨_, _, v, hb, hR⟩ := hI
  obtain ⟨A, c, rfl, _, _⟩ := R_C hR
  have c1 := (blk_cell hb 1).trans rfl
  clear hb hR
  go_enter Try.func16, Try.ntmps16
  go_wp2_with fail
  go_ret
  exact ⟨rfl, rfl⟩
set_option maxHeartbeats 4000000 in
theorem lost_any {W : World} {g : Nat} {room : Int} {xs : List Int} {lost : Bool} {F : Nat → Prop} (hI : Is W g room xs lost F) : Calls Try.prog 17 #[.pointer (some ⟨g, 0, none⟩)] W fun e w' => e = .returned (.bool lost) ∧ w' = W := by
  obtain ⟨_, _, v, hb, hR⟩ := hI
  have c2 := (blk_cell hb 2).trans rfl
  clear hb hR
  go_enter Try.func17, Try.ntmps17
  go_wp2_with fail
  go_ret
  exact ⟨rfl, rfl⟩
set_option maxHeartbeats 4000000 in
theorem put_no {W : World} {g : Nat} {room : Int} {xs : List Int} {lost : Bool} {F : Nat → Prop} (hI : Is W g room xs lost F) (hlt : room ≤ (xs.length : Int)) (x : Int) :
    Calls Try.prog 13 #[.pointer (some ⟨g, 0, none⟩), .int .i64 x] W fun e w' => e = .returned (.bool false) ∧ Is w' g room xs true F ∧ Keeps W w' F := by
  obtain ⟨hF, hlt', v, hb, hR⟩ := hI
  obtain ⟨A, c, rfl, _, _⟩ := R_C hR
  have c0 := (blk_cell hb 0).trans rfl
  have c1 := (blk_cell hb 1).trans rfl
  have c2 := (blk_cell hb 2).trans rfl
  have f2 := blk_frozen hb 2
  have HI := Lib.hid (show ∀ m, Is ((W.drewN m).setCell ⟨g, 2, none⟩ (.bool true)) g room xs true F ∧ Keeps W ((W.drewN m).setCell ⟨g, 2, none⟩ (.bool true)) F from fun m =>
    ⟨⟨hF, fun k hk => by simp [World.setCell]; exact hlt' k hk, _, blk_put (blk_drewN hb m) 2 (.bool true) rfl, Kd.R_set (Kd.R_drewN hR m) (blk_drewN hb m) (by simp [Kd.int, Kd.scalar]) 2 _⟩,
      ⟨(pw_below_drewN (Below.refl 0 W) m).setCell (p := ⟨g, 2, none⟩) (Nat.zero_le _) _, Kept.setCell (Kept.drewN (Kept.refl W F) m) (.inl hF) _⟩⟩)
  clear hb hR hlt' hF
  have hd : decide (room ≤ (xs.length : Int)) = true := decide_eq_true hlt
  go_enter Try.func13, Try.ntmps13
  go_wp2_with fail
  go_quiet (fail)
  go_wp2_with fail
  go_ret
  exact ⟨rfl, HI.out _⟩
set_option maxHeartbeats 4000000 in
theorem put_yes {W : World} {g : Nat} {room : Int} {xs : List Int} {lost : Bool} {F : Nat → Prop} (hI : Is W g room xs lost F) (hlt : (xs.length : Int) < room) (hlen : xs.length ≤ 1000000) (x : Int) :
    Calls Try.prog 13 #[.pointer (some ⟨g, 0, none⟩), .int .i64 x] W fun e w' => e = .returned (.bool true) ∧ ∃ F', Is w' g room (xs ++ [x]) lost F' ∧ (∀ k, F' k → F k ∨ W.heap.size ≤ k) ∧ Keeps W w' F := by
  obtain ⟨hF, hlt', v, hb, hR⟩ := hI
  have HF := Lib.hid hF
  have HLT := Lib.hid hlt'
  have BK := Aside0.mk hb
  have HNE := Lib.hid (OwnRow.ne_block hR.2 hb (by decide))
  obtain ⟨A, c, rfl, _, _⟩ := R_C hR
  have HR := Aside0.mk hR
  have c0 := (blk_cell hb 0).trans rfl
  have c1 := (blk_cell hb 1).trans rfl
  have hd : decide (room ≤ (xs.length : Int)) = false := decide_eq_false (by omega)
  clear hb hR hlt' hF
  go_enter Try.func13, Try.ntmps13
  go_wp2_with fail
  go_quiet (fail)
  obtain ⟨W1, hW1⟩ : ∃ W1, W1 = W.drewN nq := ⟨_, rfl⟩
  rw [← hW1]
  have HK1 := Lib.hid (show Below 0 W W1 ∧ W1.heap.size = W.heap.size from by rw [hW1]; exact ⟨pw_below_drewN (Below.refl _ _) _, rfl⟩)
  replace BK := Aside0.mk (show W1.heap[g]? = some (.cells #[.int .i64 room, .slice A xs.length c, .bool lost] 51 (0, 0)) by rw [hW1]; exact blk_drewN BK.out _)
  replace HR := Aside0.mk (show Kd.R (Kd.int .i64) 3 W1 0 F _ xs by rw [hW1]; exact Kd.R_drewN HR.out _)
  have HKP := Lib.hid (show Kept W W1 F by rw [hW1]; exact Kept.drewN (Kept.refl _ _) _)
  clear hW1 c0 c1
  have c0 := (blk_cell BK.out 0).trans rfl
  have c1 := (blk_cell BK.out 1).trans rfl
  go_wp2_with ((with_reducible refine gate_builtin (b := .append) (xs := #[.tmp 22, .tmp 24]) rfl ?_); at_builtin; refine Kd.R_append (Kd.int .i64) (w0 := W1) 0 rfl (.tmp 22) (.tmp 24) 26 3 (.int .i64 0) 8 rfl Try.underlying26 infoE rfl (by decide) (by omega) (.slice A xs.length c) xs x [.int .i64 x] (fun k => F k ∨ W.heap.size ≤ k) (fun _ => False) rfl rfl ?aP (fun _ hk => hk.elim) ?aF ?aO ?aB ?aS ?aL ?_; (case aP => exact rfl); (case aF => exact (fun k hk => .inr (by rw [← HK1.out.2]; exact hk))); (case aO => exact Kd.R_mono HR.out (fun _ hk => .inl hk)); (case aB => exact Below.refl _ _); (case aS => exact Nat.zero_le _); (case aL => omega); intro v1 w10 ho hb hg hat; have BK10 := Aside0.mk (blk_grown BK.out hg HNE.out); obtain ⟨A1, d1, rfl, _, _⟩ := R_C ho; simp only [List.length_append, List.length_singleton] at ho; have HO := Aside0.mk ho; have HB := Aside0.mk hb; have HG := Lib.hid hg; clear ho hb hg hat; have k1 := (blk_cell BK10.out 1).trans rfl; have kf := blk_frozen BK10.out 1)
  go_ret
  refine ⟨rfl, fun k => (F k ∨ W.heap.size ≤ k) ∧ k < w10.heap.size, ⟨⟨.inl HF.out, blk_lt BK10.out⟩, fun k hk => by simp [World.setCell]; exact hk.2, _, blk_put BK10.out 1 _ rfl, Kd.R_set (Kd.R_mono (Kd.R_bound HO.out) (fun k hk => ⟨hk.1, hk.2.2.1⟩)) BK10.out (by simp [Kd.int, Kd.scalar]) 1 _⟩, fun k hk => hk.1, ?_, ?_⟩
  · exact (HK1.out.1.trans HB.out).setCell (p := ⟨g, 1, none⟩) (Nat.zero_le _) _
  · refine Kept.setCell (Kept.of_grown HG.out HKP.out (fun k hk => .inl (HR.out.1 k hk))) (.inl HF.out) _
/-- Put, whatever room there is. -/
theorem put_any {W : World} {g : Nat} {room : Int} {xs : List Int} {lost : Bool} {F : Nat → Prop} (hI : Is W g room xs lost F) (hlen : xs.length ≤ 1000000) (x : Int) :
    Calls Try.prog 13 #[.pointer (some ⟨g, 0, none⟩), .int .i64 x] W fun e w' => e = .returned (.bool (decide ((xs.length : Int) < room))) ∧ ∃ F', Is w' g room (if (xs.length : Int) < room then xs ++ [x] else xs) (lost || !decide ((xs.length : Int) < room)) F' ∧ (∀ k, F' k → F k ∨ W.heap.size ≤ k) ∧ Keeps W w' F := by
  by_cases h : (xs.length : Int) < room
  · rw [if_pos h, decide_eq_true h, Bool.not_true, Bool.or_false]
    exact put_yes hI h hlen x
  · rw [if_neg h, decide_eq_false h, Bool.not_false, Bool.or_true]
    exact (put_no hI (by omega) x).mono fun e w' ⟨h1, h2, h3⟩ => ⟨h1, F, h2, fun k hk => .inl hk, h3⟩
end Go.Proofs.Ytmenjadceliheaa.RingInt
