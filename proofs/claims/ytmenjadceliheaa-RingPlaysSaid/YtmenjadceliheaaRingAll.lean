/- r.All() called with RingPlays' own closure: what its box holds behind it. -/
import Derived.Test.YtmenjadceliheaaRingSame
namespace Go.Proofs.Ytmenjadceliheaa.RingInt
open Go.RowKit Go.Proofs.Ytmenjadceliheaa.RingInv Go.Proofs.YtmenjadceliheaaW.PrintWords Go.Proofs.YtmenjadceliheaaW.PrintLast
/-- A box that holds a row of its own; all its blocks are among F. -/
def IsB (W : World) (pb : Nat) (ys : List Int) (F : Nat → Prop) : Prop :=
  F pb ∧ (∀ k, F k → k < W.heap.size) ∧ ∃ v, W.heap[pb]? = some (.cells #[v] 26 (0, 0)) ∧ Kd.R (Kd.int .i64) 3 W 0 F v ys
set_option maxHeartbeats 4000000 in
theorem yield_any {W : World} {pb sb : Nat} {ys : List Int} {F : Nat → Prop} (hI : IsB W pb ys F) (s : Int) (hs0 : 0 ≤ s) (hs1 : s ≤ 255) (hsb : W.heap[sb]? = some (.cells #[.int .u8 s] 5 (0, 0))) (hlen : ys.length ≤ 1000000) (x : Int) :
    Calls Try.prog 15 #[.int .i64 x, .pointer (some ⟨pb, 0, none⟩), .pointer (some ⟨sb, 0, none⟩)] W fun e w' => e = .returned (.bool (decide ((ys.length : Int) + 1 ≤ s))) ∧
      ∃ F', IsB w' pb (ys ++ [x]) F' ∧ (∀ k, F' k → F k ∨ W.heap.size ≤ k) ∧ Keeps W w' F ∧ w'.heap[sb]? = some (.cells #[.int .u8 s] 5 (0, 0)) := by
  obtain ⟨hF, hlt', v, hb, hR⟩ := hI
  have HF := Lib.hid hF
  have BK := Aside0.mk hb
  have SB := Aside0.mk hsb
  have HNE := Lib.hid (OwnRow.ne_block hR.2 hb (by decide))
  have HNS := Lib.hid (OwnRow.ne_block hR.2 hsb (by decide))
  have HPS := Lib.hid (blk_ne hsb hb (by decide))
  obtain ⟨A, c, rfl, _, _⟩ := R_C hR
  have HR := Aside0.mk hR
  have c0 := (blk_cell hb 0).trans (show _ = some (Value.slice A ys.length c) from rfl)
  clear hb hR hlt' hF hsb
  go_enter Try.func15, Try.ntmps15
  go_wp2_with ((with_reducible refine gate_builtin (b := .append) (xs := #[.tmp 5, .tmp 7]) rfl ?_); at_builtin; refine Kd.R_append (Kd.int .i64) (w0 := W) 0 rfl (.tmp 5) (.tmp 7) 26 3 (.int .i64 0) 8 rfl Try.underlying26 infoE rfl (by decide) (by omega) (.slice A ys.length c) ys x [.int .i64 x] (fun k => F k ∨ W.heap.size ≤ k) (fun _ => False) rfl rfl ?aP (fun _ hk => hk.elim) ?aF ?aO ?aB ?aS ?aL ?_; (case aP => exact rfl); (case aF => exact (fun k hk => .inr hk)); (case aO => exact Kd.R_mono HR.out (fun _ hk => .inl hk)); (case aB => exact Below.refl _ _); (case aS => exact Nat.zero_le _); (case aL => omega); intro v1 w10 ho hb hg hat; have BK10 := Aside0.mk (blk_grown BK.out hg HNE.out); have SB10 := Aside0.mk (blk_grown SB.out hg HNS.out); obtain ⟨A1, d1, rfl, _, _⟩ := R_C ho; simp only [List.length_append, List.length_singleton] at ho; have HO := Aside0.mk ho; have HB := Aside0.mk hb; have HG := Lib.hid hg; clear ho hb hg hat; have k1 := (blk_cell BK10.out 0).trans rfl; have kf := blk_frozen BK10.out 0; have ks := (blk_cell (blk_far SB10.out (p := ⟨pb, 0, none⟩) HPS.out (.slice A1 (ys.length + 1) d1)) 0).trans (show _ = some (Value.int .u8 s) from rfl))
  go_ret
  refine ⟨rfl, fun k => (F k ∨ W.heap.size ≤ k) ∧ k < w10.heap.size, ⟨⟨.inl HF.out, blk_lt BK10.out⟩, fun k hk => by simp [World.setCell]; exact hk.2, _, blk_put BK10.out 0 _ rfl, Kd.R_set (Kd.R_mono (Kd.R_bound HO.out) (fun k hk => ⟨hk.1, hk.2.2.1⟩)) BK10.out (by simp [Kd.int, Kd.scalar]) 0 _⟩, fun k hk => hk.1, ⟨?_, ?_⟩, blk_far SB10.out HPS.out _⟩
  · exact HB.out.setCell (p := ⟨pb, 0, none⟩) (Nat.zero_le _) _
  · exact Kept.setCell (Kept.of_grown HG.out (Kept.refl W F) (fun k hk => .inl (HR.out.1 k hk))) (.inl HF.out) _
theorem IsB.kept {W W' : World} {pb : Nat} {ys : List Int} {F S : Nat → Prop} (h : IsB W pb ys F) (hk : Kept W W' S) (hs : ∀ k, F k → ¬ S k) : IsB W' pb ys F := by
  obtain ⟨h1, h2, v, h3, h4⟩ := h
  exact ⟨h1, fun k hf => Nat.lt_of_lt_of_le (h2 k hf) hk.1, v, blk_kept h3 hk (hs pb h1), Kd.R_kept h4 hk hs⟩
theorem Keeps.then_ {W W1 W2 : World} {S S2 : Nat → Prop} (h : Keeps W W1 S) (k : Keeps W1 W2 S2) (hs : ∀ k, S2 k → S k ∨ W.heap.size ≤ k) : Keeps W W2 S := ⟨h.1.trans k.1, h.2.then_ k.2 hs⟩
set_option maxHeartbeats 4000000 in
set_option maxRecDepth 100000 in
theorem all_call {W : World} {rb pb sb Bs sn : Nat} {room : Int} {xs : List Int} {lost : Bool} {F G : Nat → Prop} (hI : Is W rb room xs lost F) (hG : IsB W pb [] G) (hd : ∀ k, F k → ¬ G k) (hs1 : sn ≤ 255)
    (hsb : W.heap[sb]? = some (.cells #[.int .u8 sn] 5 (0, 0))) (hBs : W.heap[Bs]? = some (.cells #[.pointer (some ⟨rb, 0, none⟩)] 24 (0, 0))) (hlen : xs.length ≤ 1000000) :
    Calls Try.prog 22 #[.func (.func 15) #[] #[.pointer (some ⟨pb, 0, none⟩), .pointer (some ⟨sb, 0, none⟩)], .pointer (some ⟨Bs, 0, none⟩)] W fun e w' => (∃ v, e = .returned v) ∧
      ∃ G', IsB w' pb (xs.take (sn + 1)) G' ∧ (∀ k, G' k → G k ∨ W.heap.size ≤ k) ∧ Keeps W w' G ∧ w'.heap[sb]? = some (.cells #[.int .u8 sn] 5 (0, 0)) := by
  have HII := Lib.hid hI
  obtain ⟨hF, hlt', v, hb, hR⟩ := hI
  have HR := Aside0.mk hR
  obtain ⟨A, c, rfl, hc, _⟩ := R_C hR
  have HD := Lib.hid hd
  have HG0 := Aside0.mk hG
  have SB := Aside0.mk hsb
  have c0 := (blk_cell hBs 0).trans (show _ = some (Value.pointer (some ⟨rb, 0, none⟩)) from rfl)
  have c1 := (blk_cell hb 1).trans (show _ = some (Value.slice A xs.length c) from rfl)
  clear hb hR hlt' hF hsb hd hG hBs
  go_enter Try.func22, Try.ntmps22
  go_wp2_with fail
  go_loopg [10] (xs.length) (fun gg v10 wr => ∃ (k : Nat) (G1 : Nat → Prop), v10 = .int .i64 k ∧ k ≤ xs.length ∧ k ≤ sn ∧ gg = xs.length - k ∧ Aside0 (IsB wr pb (xs.take k) G1) ∧ Hid (∀ k, G1 k → G k ∨ W.heap.size ≤ k) ∧ Aside0 (Keeps W wr G) ∧ Aside0 (wr.heap[sb]? = some (.cells #[.int .u8 sn] 5 (0, 0))))
  case atStart => exact ⟨0, G, rfl, by omega, by omega, by omega, HG0, Lib.hid (fun k hk => .inl hk), ⟨Keeps.of_below (Below.refl _ _)⟩, SB⟩
  case round =>
    clear HG0 SB c0 c1
    obtain ⟨k, G1, rfl, hk, hks, rfl, HG, HS, HK, SB⟩ := hrel
    by_cases hlt : k < xs.length
    · obtain ⟨A', c', e', _, hC⟩ := R_C (Keeps.R HR.out HK.out HD.out)
      injection e' with e1 e2 e3
      subst e1
      obtain ⟨ad, rfl, hcell⟩ := read_int hC k hlt
      have HT := Lib.hid (List.take_succ_eq_append_getElem hlt)
      have hkl : (xs.take k).length = k := by rw [List.length_take]; omega
      have HKL := Lib.hid hkl
      clear hC e2 e3 hkl
      generalize xs[k] = x at hcell HT
      go_wp2_with fail
      refine (yield_any HG.out (sn : Int) (by omega) (by omega) SB.out (by rw [HKL.out]; omega) x).mono ?_
      rintro e w2 ⟨rfl, G2, hG2, hS2, hK2, hsb2⟩
      rw [← HT.out] at hG2
      rw [HKL.out]
      have HG2 := Aside0.mk hG2
      have HK2 := Aside0.mk (Keeps.then_ HK.out hK2 (fun j hj => HS.out j hj))
      have HS2 := Lib.hid (show ∀ j, G2 j → G j ∨ W.heap.size ≤ j from fun j hj => (hS2 j hj).elim (HS.out j) (fun h => .inr (Nat.le_trans HK.out.1.size h)))
      have SB2 := Aside0.mk hsb2
      clear hG2 hS2 hK2 hsb2 HG HS HK SB hcell
      by_cases hks1 : k + 1 ≤ sn
      · have hd1 : decide ((k : Int) + 1 ≤ (sn : Int)) = true := decide_eq_true (by omega)
        rw [hd1]
        clear hd1
        go_wp2_with fail
        go_roundg (xs.length - (k + 1))
        case measure => omega
        case rel => exact ⟨k + 1, G2, by go_num, by omega, by omega, rfl, HG2, HS2, HK2, SB2⟩
      · have hd1 : decide ((k : Int) + 1 ≤ (sn : Int)) = false := decide_eq_false (by omega)
        rw [hd1]
        clear hd1
        obtain rfl : k = sn := by omega
        go_wp2_with fail
        refine bodyPost_ret (results_none rfl _ _ _) rfl ?_
        exact ⟨⟨_, rfl⟩, G2, HG2.out, HS2.out, HK2.out, SB2.out⟩
    · obtain rfl : k = xs.length := by omega
      go_wp2_with fail
      go_end0
      exact ⟨⟨_, rfl⟩, G1, by rw [List.take_of_length_le (by omega)]; have := HG.out; rw [List.take_length] at this; exact this, HS.out, HK.out, SB.out⟩
end Go.Proofs.Ytmenjadceliheaa.RingInt
