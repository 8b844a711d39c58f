/- The walk of the law HashBoth. -/
import Derived.Test.YtbhngcjiciinpaaHashReads
namespace Go.Proofs.Ytbhngcjiciinpaa.HashBoth
open Go.RowKit Go.Proofs.Ytbhngcjiciinpaa.PHashStripes Go.Proofs.Ytbhngcjiciinpaa.HashCommon Go.Proofs.YtbhngcjiciinpaaW.PrintWords Go.Proofs.YtbhngcjiciinpaaW.PrintLast
/-- The law's array: which stripes were told. -/
def arr (p : Nat → Bool) : Array Value := ((List.range 8).map fun s => Value.int .i64 (if p s = true then 1 else 0)).toArray
theorem arr_none : arr (fun _ => false) = #[.int .i64 0, .int .i64 0, .int .i64 0, .int .i64 0, .int .i64 0, .int .i64 0, .int .i64 0, .int .i64 0] := rfl
theorem arr_get (p : Nat → Bool) (k : Nat) (hk : k < 8) : (arr p)[k]? = some (.int .i64 (if p k = true then 1 else 0)) := by
  unfold arr
  rw [List.getElem?_toArray, List.getElem?_map, List.getElem?_range hk]
  rfl
theorem arr_out (p : Nat → Bool) (k : Nat) (hk : ¬ k < 8) : (arr p)[k]? = none := Array.getElem?_eq_none (by simp [arr]; omega)
theorem arr_congr (p q : Nat → Bool) (h : ∀ s, s < 8 → p s = q s) : arr p = arr q := by
  apply Array.ext_getElem?
  intro k
  by_cases hk : k < 8
  · rw [arr_get _ _ hk, arr_get _ _ hk, h k hk]
  · rw [arr_out _ _ hk, arr_out _ _ hk]
theorem arr_set (p : Nat → Bool) (j : Nat) : (arr p).setIfInBounds j (.int .i64 1) = arr (fun s => p s || decide (j = s)) := by
  apply Array.ext_getElem?
  intro k
  by_cases hk : k < 8
  · rw [arr_get _ _ hk, Array.getElem?_setIfInBounds]
    by_cases e : j = k
    · subst e
      rw [if_pos rfl, if_pos (by simp [arr, hk]), decide_eq_true rfl, Bool.or_true]
      rfl
    · rw [if_neg e, arr_get _ _ hk, decide_eq_false e, Bool.or_false]
  · rw [Array.getElem?_eq_none (by simp [arr]; omega), arr_out _ _ hk]
/-- Is the stripe in the row? -/
def told (xs : List Int) (s : Nat) : Bool := xs.any fun x => decide (x = (s : Int))
theorem told_snoc (xs : List Int) (j : Nat) : (fun s => told xs s || decide (j = s)) = told (xs ++ [(j : Int)]) := by
  funext s
  unfold told
  rw [List.any_append]
  congr 1
  simp only [List.any_cons, List.any_nil, Bool.or_false]
  rw [decide_eq_decide]
  omega
theorem mem_st (l : List ByteArray) (k x : Int) (h1 : 1 ≤ k) (h8 : k ≤ 8) (h : x ∈ stripes l k) : ∃ j : Nat, x = (j : Int) ∧ j < 8 ∧ (j : Int) < k ∧ hasSt l k j = true := by
  unfold stripes at h
  obtain ⟨s, hs, rfl⟩ := List.mem_map.1 h
  obtain ⟨a, b⟩ := List.mem_filter.1 hs
  refine ⟨s, rfl, List.mem_range.1 a, ?_, b⟩
  unfold hasSt at b
  obtain ⟨u, _, hu⟩ := List.any_eq_true.1 b
  have hu := of_decide_eq_true hu
  have := (st_bd u k (by omega)).2.2 h1
  omega
theorem told_stripes (l : List ByteArray) (k : Int) (s : Nat) (hs : s < 8) : told (stripes l k) s = hasSt l k s := by
  rw [Bool.eq_iff_iff]
  unfold told stripes
  constructor
  · intro h
    obtain ⟨x, hx, e⟩ := List.any_eq_true.1 h
    obtain ⟨j, hj, rfl⟩ := List.mem_map.1 hx
    have := of_decide_eq_true e
    obtain rfl : j = s := by omega
    exact (List.mem_filter.1 hj).2
  · intro h
    exact List.any_eq_true.2 ⟨(s : Int), List.mem_map.2 ⟨s, List.mem_filter.2 ⟨List.mem_range.2 hs, h⟩, rfl⟩, decide_eq_true rfl⟩
theorem told_both (a b : List ByteArray) (k : Int) (s : Nat) (hs : s < 8) : told (stripes a k ++ stripes b k) s = hasSt (a ++ b) k s := by
  have e : told (stripes a k ++ stripes b k) s = (told (stripes a k) s || told (stripes b k) s) := by unfold told; rw [List.any_append]
  have e2 : hasSt (a ++ b) k s = (hasSt a k s || hasSt b k s) := by unfold hasSt; rw [List.any_append]
  rw [e, e2, told_stripes _ _ _ hs, told_stripes _ _ _ hs]
theorem info9 : (Try.prog.info? 9).map (fun i => (i.zero, i.size, i.bytes)) = some (some (.string ByteArray.empty), 1, 16) := by kernel_rfl
theorem build0 (W : World) : Kd.R Kd.string 9 (W.alloc (.cells #[] 9)) W.heap.size (fun _ => True) (.slice (some ⟨W.heap.size, 0, none⟩) 0 0) [] := by
  have h : OwnRow (fun (x : ByteArray) cs => cs = [Value.string x]) 9 1 (W.alloc (.cells #[] 9)) W.heap.size (.slice (some ⟨W.heap.size, 0, none⟩) 0 0) [] :=
    OwnRow.lit (inner := []) (ps := ([] : List ByteArray)) W W.heap.size ⟨rfl, fun j p hj => by simp at hj⟩ (Nat.le_refl _) (by simp)
  exact ⟨fun _ _ => trivial, h⟩
set_option maxHeartbeats 8000000 in
set_option maxRecDepth 100000 in
theorem walk (A : Option Addr) (ca : Nat) (a : List ByteArray) (B : Option Addr) (cb : Nat) (b : List ByteArray) (n : Int) (w : World) (hra : Kd.C Kd.string w A a.length a) (hca : a.length ≤ ca) (_ : ∀ s ∈ a, s.size ≤ maxLen) (hya : a.length * 16 ≤ 140737488351232)
    (hrb : Kd.C Kd.string w B b.length b) (hcb : b.length ≤ cb) (_ : ∀ s ∈ b, s.size ≤ maxLen) (hyb : b.length * 16 ≤ 140737488351232) (wn : (Lit.int .u8 n).wf = true) :
    Calls Try.prog 7 #[.slice A a.length ca, .slice B b.length cb, .int .u8 n] w fun e w' => e = .returned (.bool true) ∧ Below w.heap.size w w' := by
  obtain ⟨n0, n1⟩ := bounds_u8 wn
  have HCA := Lib.hid hca
  have HCB := Lib.hid hcb
  have HLA := Lib.hid (show a.length ≤ 9223372036854775000 by omega)
  have HLB := Lib.hid (show b.length ≤ 9223372036854775000 by omega)
  have HRA := Aside0.mk hra
  have HRB := Aside0.mk hrb
  have HRA0 := Lib.hid hra
  have HRB0 := Lib.hid hrb
  have HB := Aside0.mk (Below.refl w.heap.size w)
  clear hra hrb hca hcb hya hyb wn
  go_enter Try.func7, Try.ntmps7
  go_wp2_with fail
  refine (awake_any _).mono ?_; rintro e w1 ⟨rfl, m1, rfl⟩
  replace HRA := Aside0.mk (C_drewN HRA.out m1)
  replace HRB := Aside0.mk (C_drewN HRB.out m1)
  replace HB := Aside0.mk (pw_below_drewN HB.out m1)
  generalize w.drewN m1 = wa at HRA HRB HB ⊢
  obtain ⟨r, hlong, hlim⟩ := long_any a A ca wa HLA.out HRA.out HCA.out
  have HLim := Lib.hid hlim
  have HLong := Lib.hid hlong
  clear hlim hlong
  go_wp2_with fail
  refine HLong.out.mono ?_; rintro e w2 ⟨rfl, hb⟩
  replace HRA := Aside0.mk (Kd.C_below HRA.out hb)
  replace HRB := Aside0.mk (Kd.C_below HRB.out hb)
  replace HB := Aside0.mk (below_trans HB.out hb)
  clear hb HLong
  cases r with
  | true =>
    go_wp2_with fail
    refine (awake_any _).mono ?_; rintro e w3 ⟨rfl, m3, rfl⟩
    go_wp2_with fail
    go_ret
    exact ⟨rfl, pw_below_drewN HB.out m3⟩
  | false =>
  obtain ⟨ha400, hsa400⟩ := HLim.out rfl
  have HA4 := Lib.hid hsa400
  clear hsa400 HLim
  obtain ⟨r, hlong, hlim⟩ := long_any b B cb w2 HLB.out HRB.out HCB.out
  have HLim := Lib.hid hlim
  have HLong := Lib.hid hlong
  clear hlim hlong
  go_wp2_with fail
  refine HLong.out.mono ?_; rintro e w3 ⟨rfl, hb⟩
  replace HRA := Aside0.mk (Kd.C_below HRA.out hb)
  replace HRB := Aside0.mk (Kd.C_below HRB.out hb)
  replace HB := Aside0.mk (below_trans HB.out hb)
  clear hb HLong
  cases r with
  | true =>
    go_wp2_with fail
    refine (awake_any _).mono ?_; rintro e w3 ⟨rfl, m3, rfl⟩
    go_wp2_with fail
    go_ret
    exact ⟨rfl, pw_below_drewN HB.out m3⟩
  | false =>
  obtain ⟨hb400, hsb400⟩ := HLim.out rfl
  have HB4 := Lib.hid hsb400
  clear hsb400 HLim
  have K1 : 1 ≤ 1 + n % 8 := by omega
  have K8 : 1 + n % 8 ≤ 8 := by omega
  obtain ⟨k, hk⟩ : ∃ k, k = 1 + n % 8 := ⟨_, rfl⟩
  rw [← hk] at K1 K8
  go_wp2_with ((with_reducible refine gate_dst (N := 8) rfl ?_); refine box_event ?hg (N := 8) ?hd (cs := #[.int .i64 0, .int .i64 0, .int .i64 0, .int .i64 0, .int .i64 0, .int .i64 0, .int .i64 0, .int .i64 0]) (t := 35) ?hr ?_; (case hd => rfl); (case hg => rfl); (case hr => first | (go_simp; done) | (go_simp; rfl)); intro gb hg w4 hbox hb; have HRA1 := Aside0.mk (Kd.C_below HRA.out hb); have HRB1 := Aside0.mk (Kd.C_below HRB.out hb); have HB1 := Aside0.mk (below_trans HB.out hb); have GB := Aside0.mk (by rw [hg]; exact below_size HB.out : w.heap.size ≤ gb); have BK := Aside0.mk hbox; clear hb hbox hg HB HRA HRB)
  rw [← hk]
  clear hk
  refine (stripes_any a A ca k _ (by omega) HRA1.out (fun s hs => by have := HA4.out s hs; omega) (by omega)).mono ?_
  rintro e w5 ⟨v, rfl, hv, hb⟩
  have HX := Aside0.mk hv
  replace HRB1 := Aside0.mk (Kd.C_below HRB1.out hb)
  replace HB1 := Aside0.mk (below_trans HB1.out hb)
  replace BK := Aside0.mk (blk_below BK.out hb)
  obtain ⟨A1, c1, rfl, hc1, _⟩ := R_C hv
  clear hv hb hc1 HRA1
  go_wp2_with fail
  refine (stripes_any b B cb k _ (by omega) HRB1.out (fun s hs => by have := HB4.out s hs; omega) (by omega)).mono ?_
  rintro e w6 ⟨v, rfl, hv, hb⟩
  have HY := Aside0.mk hv
  replace HX := Aside0.mk (Kd.R_below HX.out hb)
  replace HB1 := Aside0.mk (below_trans HB1.out hb)
  replace BK := Aside0.mk (blk_below BK.out hb)
  obtain ⟨A2, c2, rfl, hc2, _⟩ := R_C hv
  clear hv hb hc2 HRB1
  have HMX := Lib.hid (fun x hx => mem_st a k x K1 K8 hx)
  have HMY := Lib.hid (fun x hx => mem_st b k x K1 K8 hx)
  have HTB := Lib.hid (told_both a b k)
  have hlx := stripes_len a k
  have hly := stripes_len b k
  generalize stripes a k = xs at HX HMX HTB hlx ⊢
  generalize stripes b k = ys at HY HMY HTB hly ⊢
  generalize w5.heap.size = base2 at HY
  generalize w4.heap.size = base1 at HX
  go_wp2_with fail
  go_loopg [11] (xs.length) (fun g v11 wr => ∃ i : Nat, v11 = .int .i64 i ∧ i ≤ xs.length ∧ g = xs.length - i ∧ Aside0 (wr.heap[gb]? = some (.cells (arr (told (xs.take i))) 35 (0, 0))) ∧ Aside0 (Kd.R (Kd.int .i64) 3 wr base1 (fun _ => True) (.slice A1 xs.length c1) xs) ∧ Aside0 (Kd.R (Kd.int .i64) 3 wr base2 (fun _ => True) (.slice A2 ys.length c2) ys) ∧ Aside0 (Below w.heap.size w wr))
  case atStart => exact ⟨0, rfl, by omega, by omega, BK, HX, HY, HB1⟩
  case round =>
    clear BK HX HY HB1
    obtain ⟨i, rfl, hi, rfl, BK, HX, HY, HB⟩ := hrel
    by_cases hlt : i < xs.length
    · obtain ⟨A', c', e', _, hC⟩ := R_C HX.out
      injection e' with e1 e2 e3
      subst e1
      obtain ⟨ad, rfl, hcell⟩ := read_int hC i hlt
      obtain ⟨j, hj, j8, jk, _⟩ := HMX.out _ (List.getElem_mem hlt)
      have HT := Lib.hid (List.take_succ_eq_append_getElem hlt)
      rw [hj] at hcell HT
      clear hj hC e2 e3
      have hc8 := (blk_cell BK.out j).trans (arr_get _ _ j8)
      have hf8 := blk_frozen BK.out j
      generalize (if told (List.take i xs) j = true then (1 : Int) else 0) = t at hc8
      go_wp2_with fail
      go_roundg (xs.length - (i + 1))
      case measure => omega
      case rel => exact ⟨i + 1, by go_num, by omega, rfl, ⟨by rw [HT.out, ← told_snoc]; exact blk_put BK.out j _ (arr_set _ _)⟩, ⟨Kd.R_set HX.out BK.out (by simp [Kd.int, Kd.scalar]) j _⟩, ⟨Kd.R_set HY.out BK.out (by simp [Kd.int, Kd.scalar]) j _⟩, ⟨below_set HB.out GB.out⟩⟩
    · obtain rfl : i = xs.length := by omega
      rw [List.take_length] at BK
      clear HX
      obtain ⟨wb, rfl⟩ : ∃ wb : World, wb = wr := ⟨_, rfl⟩
      go_wp2_with fail
      go_loopg [12] (ys.length) (fun g v12 wr => ∃ i : Nat, v12 = .int .i64 i ∧ i ≤ ys.length ∧ g = ys.length - i ∧ Aside0 (wr.heap[gb]? = some (.cells (arr (told (xs ++ ys.take i))) 35 (0, 0))) ∧ Aside0 (Kd.R (Kd.int .i64) 3 wr base2 (fun _ => True) (.slice A2 ys.length c2) ys) ∧ Aside0 (Below w.heap.size w wr))
      case atStart => exact ⟨0, rfl, by omega, by omega, ⟨by rw [List.take_zero, List.append_nil]; exact BK.out⟩, HY, HB⟩
      case round =>
        clear BK HY HB
        obtain ⟨i, rfl, hi, rfl, BK, HY, HB⟩ := hrel
        by_cases hlt : i < ys.length
        · obtain ⟨A', c', e', _, hC⟩ := R_C HY.out
          injection e' with e1 e2 e3
          subst e1
          obtain ⟨ad, rfl, hcell⟩ := read_int hC i hlt
          obtain ⟨j, hj, j8, jk, _⟩ := HMY.out _ (List.getElem_mem hlt)
          have HT := Lib.hid (List.take_succ_eq_append_getElem hlt)
          rw [hj] at hcell HT
          clear hj hC e2 e3
          have hc8 := (blk_cell BK.out j).trans (arr_get _ _ j8)
          have hf8 := blk_frozen BK.out j
          generalize (if told (xs ++ List.take i ys) j = true then (1 : Int) else 0) = t at hc8
          go_wp2_with fail
          go_roundg (ys.length - (i + 1))
          case measure => omega
          case rel => exact ⟨i + 1, by go_num, by omega, rfl, ⟨by rw [HT.out, ← List.append_assoc, ← told_snoc]; exact blk_put BK.out j _ (arr_set _ _)⟩, ⟨Kd.R_set HY.out BK.out (by simp [Kd.int, Kd.scalar]) j _⟩, ⟨below_set HB.out GB.out⟩⟩
        · obtain rfl : i = ys.length := by omega
          rw [List.take_length, arr_congr _ _ HTB.out] at BK
          clear HY HTB HMX HMY
          obtain ⟨wc, rfl⟩ : ∃ wc : World, wc = wr := ⟨_, rfl⟩
          have HA := Aside0.mk (Kd.C_below HRA0.out HB.out)
          have HBB := Aside0.mk (Kd.C_below HRB0.out HB.out)
          go_wp2_with (first
            | ((with_reducible refine gate_builtin (b := .append) (xs := #[.tmp 88, .tmp 89]) rfl ?_); at_builtin; refine Kd.R_append_rows Kd.string (w0 := wc) wc.heap.size rfl (.tmp 88) (.tmp 89) 29 9 (.string ByteArray.empty) 16 rfl Try.underlying29 info9 rfl (by decide) (by omega) v1 a b B b.length cb (fun _ => True) (fun _ => False) rfl rfl
                HO1.out (Kd.C_below HBB.out HB1.out) (fun _ _ h => h) (fun _ h => h.elim) (fun _ _ => trivial) HB1.out (below_size HB1.out) (by omega) ?_; intro v2 w11 ho hb hg hat; have HO2 := Aside0.mk ho; have HB2 := Aside0.mk hb; clear ho hb hg hat HO1 HB1)
            | ((with_reducible refine gate_builtin (b := .append) (xs := #[.tmp 86, .tmp 87]) rfl ?_); at_builtin; refine Kd.R_append_rows Kd.string (w0 := wc) wc.heap.size rfl (.tmp 86) (.tmp 87) 29 9 (.string ByteArray.empty) 16 rfl Try.underlying29 info9 rfl (by decide) (by omega) _ [] a A a.length ca (fun _ => True) (fun _ => False) rfl rfl
                (build0 wc) (Kd.C_alloc HA.out _) (fun _ _ h => h) (fun _ h => h.elim) (fun _ _ => trivial) (below_alloc (Below.refl _ _) _) (by simp) (by simp; omega) ?_; rw [List.nil_append]; intro v1 w10 ho hb hg hat; have HO1 := Aside0.mk ho; have HB1 := Aside0.mk hb; clear ho hb hg hat))
          obtain ⟨T, tc, rfl, _, hT⟩ := R_C HO2.out
          have HTT := Aside0.mk hT
          replace BK := Aside0.mk (blk_below BK.out HB2.out)
          replace HB := Aside0.mk (below_trans HB.out HB2.out)
          clear hT HO2 HB2 HA HBB
          have hlab : (a ++ b).length = a.length + b.length := List.length_append
          have HSZ := Lib.hid (show ∀ s ∈ a ++ b, s.size ≤ 1000000 from fun s hs => by
            rcases List.mem_append.1 hs with h | h
            · have := HA4.out s h; omega
            · have := HB4.out s h; omega)
          generalize a ++ b = L at HTT BK hlab HSZ ⊢
          refine (stripes_any L T tc k _ (by omega) HTT.out HSZ.out (by omega)).mono ?_
          rintro e w12 ⟨v, rfl, hv, hb⟩
          obtain ⟨A3, c3, rfl, _, hC⟩ := R_C hv
          have HZ := Aside0.mk hC
          replace BK := Aside0.mk (blk_below BK.out hb)
          replace HB := Aside0.mk (below_trans HB.out hb)
          clear hv hb hC HTT
          have HMZ := Lib.hid (fun x hx => mem_st L k x K1 K8 hx)
          have hlz := stripes_len L k
          have HE := Lib.hid (show (upTo L k 8).length = (stripes L k).length from rfl)
          generalize stripes L k = zs at HZ HMZ hlz HE ⊢
          go_wp2_with fail
          go_loopg [14, 15] (zs.length) (fun g v14 v15 wr => ∃ i : Nat, v14 = .int .i64 i ∧ v15 = .int .i64 i ∧ i ≤ zs.length ∧ g = zs.length - i ∧ Aside0 (wr.heap[gb]? = some (.cells (arr (hasSt L k)) 35 (0, 0))) ∧ Aside0 (Kd.C (Kd.int .i64) wr A3 zs.length zs) ∧ Aside0 (Below w.heap.size w wr))
          case atStart => exact ⟨0, rfl, rfl, by omega, by omega, BK, HZ, HB⟩
          case round =>
            clear BK HZ HB
            obtain ⟨i, rfl, rfl, hi, rfl, BK, HZ, HB⟩ := hrel
            by_cases hlt : i < zs.length
            · obtain ⟨ad, rfl, hcell⟩ := read_int HZ.out i hlt
              obtain ⟨j, hj, j8, jk, hh⟩ := HMZ.out _ (List.getElem_mem hlt)
              rw [hj] at hcell
              clear hj
              have hc8 := (blk_cell BK.out j).trans (arr_get _ _ j8)
              rw [if_pos hh] at hc8
              clear hh
              go_wp2_with fail
              go_roundg (zs.length - (i + 1))
              case measure => omega
              case rel => exact ⟨i + 1, by go_num, by go_num, by omega, rfl, BK, HZ, HB⟩
            · obtain rfl : i = zs.length := by omega
              clear HZ HMZ
              obtain ⟨we, rfl⟩ : ∃ we : World, we = wr := ⟨_, rfl⟩
              go_wp2_with fail
              go_loopg [14, 16] (8) (fun g v14 v16 wr => ∃ (m : Int) (s : Nat), v14 = .int .i64 m ∧ v16 = .int .i64 s ∧ m = zs.length - ((upTo L k s).length : Int) ∧ s ≤ 8 ∧ g = 8 - s ∧ Aside0 (wr.heap[gb]? = some (.cells (arr (hasSt L k)) 35 (0, 0))) ∧ Aside0 (Below w.heap.size w wr))
              case atStart => exact ⟨zs.length, 0, rfl, rfl, by simp [upTo], by omega, by omega, BK, HB⟩
              case round =>
                clear BK HB
                obtain ⟨m, s, rfl, rfl, hm, hs, rfl, BK, HB⟩ := hrel
                have hul := upTo_len L k s
                by_cases hlt : s < 8
                · have hc8 := (blk_cell BK.out s).trans (arr_get _ _ hlt)
                  cases hh : hasSt L k s with
                  | true =>
                    rw [if_pos hh] at hc8
                    have hu := congrArg List.length (upTo_hit L k s hh)
                    rw [List.length_append, List.length_singleton] at hu
                    clear hh
                    go_wp2_with fail
                    go_roundg (8 - (s + 1))
                    case measure => omega
                    case rel => exact ⟨m - 1, s + 1, by go_num, by go_num, by omega, by omega, rfl, BK, HB⟩
                  | false =>
                    rw [if_neg (by rw [hh]; decide)] at hc8
                    have hu := congrArg List.length (upTo_miss L k s hh)
                    clear hh
                    go_wp2_with fail
                    go_roundg (8 - (s + 1))
                    case measure => omega
                    case rel => exact ⟨m, s + 1, by go_num, by go_num, by omega, by omega, rfl, BK, HB⟩
                · obtain rfl : s = 8 := by omega
                  have hE := HE.out
                  obtain ⟨rfl⟩ : m = 0 := by omega
                  clear hm hE hul HE hs
                  go_wp2_with fail
                  go_ret
                  exact ⟨rfl, HB.out⟩
end Go.Proofs.Ytbhngcjiciinpaa.HashBoth
