/- The walk of the law HashOne. -/
import Derived.Test.YtbhngcjiciinpaaHashReads
import Derived.Deep.QuietTactic
import Derived.Deep.RegionHeld3
import Derived.Deep.DrawnRows
namespace Go.Proofs.Ytbhngcjiciinpaa.HashOne
open Go.RowKit Go.Proofs.Ytbhngcjiciinpaa.PHashStripes Go.Proofs.Ytbhngcjiciinpaa.HashCommon Go.Proofs.YtbhngcjiciinpaaW.PrintWords Go.Proofs.YtbhngcjiciinpaaW.PrintLast
attribute [local go_sem ↓] Go.wp_at_zero Go.wp_at_succ
theorem C_one {w : World} {a : Addr} {u : ByteArray} (h : w.cell? a = some (.string u)) : Kd.C Kd.string w (some a) 1 [u] := by
  refine ⟨rfl, by omega, fun _ => ⟨a, rfl, fun i x hx => ?_⟩⟩
  cases i with
  | zero =>
    injection hx with hx
    subst hx
    refine ⟨[.string u], rfl, rfl, fun j v hv => ?_⟩
    cases j with
    | zero =>
      injection hv with hv
      subst hv
      have e : a.add (0 * 1 + 0) = a := by cases a; simp [Addr.add]
      exact (congrArg w.cell? e).trans h
    | succ j => simp at hv
  | succ i => simp at hx
theorem stripes_one (u : ByteArray) (k : Int) (h1 : 1 ≤ k) (h8 : k ≤ 8) : stripes [u] k = [st u k] := by
  obtain ⟨b0, _, b1⟩ := st_bd u k (by omega)
  have b1 := b1 h1
  have : ∀ x : Int, 0 ≤ x → x < 8 → ((List.range 8).filter fun s : Nat => [u].any fun _ => decide (x = (s : Int))).map (fun s : Nat => (s : Int)) = [x] := by
    intro x h0 h8
    obtain ⟨j, rfl⟩ := Int.eq_ofNat_of_zero_le h0
    have hj : j < 8 := by omega
    match j, hj with
    | 0, _ => rfl
    | 1, _ => rfl
    | 2, _ => rfl
    | 3, _ => rfl
    | 4, _ => rfl
    | 5, _ => rfl
    | 6, _ => rfl
    | 7, _ => rfl
  exact this _ b0 (by omega)
theorem stripes_same (l m : List ByteArray) (k : Int) (h : ∀ s, hasSt l k s = hasSt m k s) : stripes l k = stripes m k := by
  unfold stripes
  rw [show hasSt l k = hasSt m k from funext h]
theorem stripes_pair (l : List ByteArray) (k : Int) : (stripes l k).Pairwise (· < ·) := by
  unfold stripes
  rw [List.pairwise_map]
  exact List.Pairwise.imp (fun h => by omega) (List.Pairwise.filter _ List.pairwise_lt_range)
theorem hashOf_append (s m : ByteArray) : hashOf (s ++ m) = hashL (hashOf s) m.data.toList := by
  unfold hashOf hashL
  rw [ByteArray.data_append, Array.toList_append, List.foldl_append]
theorem hashL_snoc (h : Int) (l : List UInt8) (b : UInt8) : hashL h (l ++ [b]) = mixb (hashL h l) b := by
  unfold hashL
  rw [List.foldl_append]
  rfl

theorem info9 : (Try.prog.info? 9).map (fun i => (i.zero, i.size, i.bytes)) = some (some (.string ByteArray.empty), 1, 16) := by kernel_rfl
theorem build2 (W : World) (u : ByteArray) : Kd.R Kd.string 9 (W.alloc (.cells #[.string u, .string u] 9)).drew W.heap.size (fun _ => True) (.slice (some ⟨W.heap.size, 0, none⟩) 2 2) [u, u] := by
  have h : OwnRow (fun (x : ByteArray) cs => cs = [Value.string x]) 9 1 (W.alloc (.cells #[.string u, .string u] 9)) W.heap.size (.slice (some ⟨W.heap.size, 0, none⟩) 2 2) [u, u] :=
    OwnRow.lit (inner := [.string u, .string u]) (ps := [u, u]) W W.heap.size ⟨rfl, fun j p hj => by
      match j with
      | 0 => injection hj with hj; subst hj; rfl
      | 1 => injection hj with hj; subst hj; rfl
      | j + 2 => simp at hj⟩ (Nat.le_refl _) (by simp)
  exact Kd.R_drew ⟨fun _ _ => trivial, h⟩
theorem more_snoc (s m : ByteArray) (i : Nat) (h : i < m.size) : IntKind.u64.wrap (Go.bits .xor .u64 (hashL (hashOf s) (m.data.toList.take i)) (IntKind.u64.wrap (m[i].toNat : Int)) * 1099511628211) = hashL (hashOf s) (m.data.toList.take (i + 1)) := by
  have hl : i < m.data.toList.length := by simpa using h
  rw [List.take_succ_eq_append_getElem hl, hashL_snoc]
  have e : IntKind.u64.wrap (m[i].toNat : Int) = (m[i].toNat : Int) := by
    rw [IntKind.wrap_u64]
    have := UInt8.toNat_lt m[i]
    omega
  rw [e]
  rfl
/-- The users so far, each told twice, the last first. -/
structure Turned (l : List ByteArray) (k : Int) (i : Nat) (ts : List ByteArray) : Prop where
  len : ts.length = 2 * i
  size : ∀ s ∈ ts, s.size ≤ 400
  same : ∀ s, hasSt ts k s = hasSt (l.take i) k s
theorem Turned.next {l : List ByteArray} {k : Int} {i : Nat} {ts : List ByteArray} (h : Turned l k i ts) {u : ByteArray} (hu : u.size ≤ 400) (ht : l.take (i + 1) = l.take i ++ [u]) : Turned l k (i + 1) ([u, u] ++ ts) := by
  refine ⟨by simp [h.len]; omega, fun s hs => ?_, fun s => ?_⟩
  · simp only [List.cons_append, List.nil_append, List.mem_cons] at hs
    rcases hs with rfl | rfl | hs
    · exact hu
    · exact hu
    · exact h.size s hs
  · rw [ht, hasSt_snoc, ← h.same]
    unfold hasSt
    simp only [List.cons_append, List.nil_append, List.any_cons]
    cases decide (st u k = (s : Int)) <;> cases ts.any fun u => decide (st u k = (s : Int)) <;> rfl
set_option maxHeartbeats 8000000 in
set_option maxRecDepth 100000 in
theorem walk (A : Option Addr) (c : Nat) (l : List ByteArray) (n : Int) (s more : ByteArray) (w : World) (hr : Kd.C Kd.string w A l.length l) (hc : l.length ≤ c) (_ : ∀ s ∈ l, s.size ≤ maxLen) (hy : l.length * 16 ≤ 140737488351232) (wn : (Lit.int .u8 n).wf = true)
    (hs : s.size ≤ 140737488351232) (hm : more.size ≤ 140737488351232) :
    Calls Try.prog 6 #[.slice A l.length c, .int .u8 n, .string s, .string more] w fun e w' => e = .returned (.bool true) ∧ Below w.heap.size w w' := by
  obtain ⟨n0, n1⟩ := bounds_u8 wn
  have hl : l.length ≤ 9223372036854775000 := by omega
  have HC := Lib.hid hc
  have HL := Lib.hid hl
  have HR := Aside0.mk hr
  have HB := Aside0.mk (Below.refl w.heap.size w)
  clear hl hr hy wn
  go_enter Try.func6, Try.ntmps6
  go_wp2_with fail
  refine (awake_any _).mono ?_; rintro e w1 ⟨rfl, m1, rfl⟩
  replace HR := Aside0.mk (C_drewN HR.out m1)
  replace HB := Aside0.mk (pw_below_drewN HB.out m1)
  generalize w.drewN m1 = wa at HR HB ⊢
  obtain ⟨r, hlong, hlim⟩ := long_any l A c wa HL.out HR.out HC.out
  have HLim := Lib.hid hlim
  have HLong := Lib.hid hlong
  clear hlim hlong
  go_wp2_with fail
  refine HLong.out.mono ?_; rintro e w2 ⟨rfl, hb⟩
  replace HR := Aside0.mk (Kd.C_below HR.out hb)
  replace HB := Aside0.mk (below_trans HB.out hb)
  clear hb HLong
  cases r with
  | true =>
    go_wp2_with fail
    refine (awake_any _).mono ?_; rintro e w3 ⟨rfl, m3, rfl⟩
    go_wp2_with fail
    go_ret
    exact ⟨rfl, pw_below_drewN HB.out m3⟩
  | false =>
  obtain ⟨h400, hs400⟩ := HLim.out rfl
  have H4 := Lib.hid h400
  have HS4 := Lib.hid hs400
  clear hs400 HLim
  by_cases hs4 : (400 : Int) < s.size
  · go_wp2_with fail
    refine (awake_any _).mono ?_; rintro e w3 ⟨rfl, m3, rfl⟩
    go_wp2_with fail
    go_ret
    exact ⟨rfl, pw_below_drewN HB.out m3⟩
  by_cases hm4 : (400 : Int) < more.size
  · go_wp2_with fail
    refine (awake_any _).mono ?_; rintro e w3 ⟨rfl, m3, rfl⟩
    go_wp2_with fail
    go_ret
    exact ⟨rfl, pw_below_drewN HB.out m3⟩
  go_wp2_with fail
  have K1 : 1 ≤ 1 + n % 8 := by omega
  have K8 : 1 + n % 8 ≤ 8 := by omega
  generalize 1 + n % 8 = k at K1 K8 ⊢
  obtain ⟨wb, rfl⟩ : ∃ wb : World, wb = w2 := ⟨_, rfl⟩
  go_loopg [10, 11] (l.length) (fun g v10 v11 wr => ∃ (i : Nat) (ts : List ByteArray) (T : Option Addr) (tc : Nat), v10 = .slice T ts.length tc ∧ v11 = .int .i64 i ∧ i ≤ l.length ∧ g = l.length - i ∧ Hid (Turned l k i ts) ∧ ts.length ≤ tc ∧ Aside0 (Kd.C Kd.string wr T ts.length ts) ∧ Aside0 (Kd.C Kd.string wr A l.length l) ∧ Aside0 (Below w.heap.size w wr))
  case atStart => exact ⟨0, [], none, 0, rfl, rfl, by omega, by omega, Lib.hid ⟨rfl, fun s hs => by simp at hs, fun s => rfl⟩, Nat.le_refl _, ⟨⟨rfl, by simp, fun h => by simp at h⟩⟩, HR, HB⟩
  case round =>
    clear HR HB
    obtain ⟨i, ts, T, tc, rfl, rfl, hi, rfl, HT, htc, HTS, HR, HB⟩ := hrel
    by_cases hlt : i < l.length
    · obtain ⟨ad, rfl, hcell⟩ := read_str HR.out i hlt
      have hu : l[i].size ≤ 400 := HS4.out _ (List.getElem_mem hlt)
      have HTK := Lib.hid (List.take_succ_eq_append_getElem hlt)
      generalize l[i] = u at hcell hu HTK
      have hic : (i : Int) + 1 ≤ (c : Int) := by omega
      go_wp2_with fail
      go_region_held3 (fun w' => w'.cell? (ad.add i) = some (.string u)) (first | go_keep | exact pw_cell_below hb hcell)
        ((refine Kd.R_append_rows_step Kd.string (w0 := wr) wr.heap.size (by rfl) (.tmp 53) (.tmp 54) 29 9 (.string ByteArray.empty) 16 (by rfl) Try.underlying29 info9 rfl (by decide) (by omega) _ [u, u] ts T ts.length tc (fun _ => True) (fun _ => False) (by rfl) (by rfl)
              (build2 wr u) (Kd.C_drew (Kd.C_alloc HTS.out _)) (fun _ _ h => h) (fun _ h => h.elim) (fun _ _ => trivial) (below_drew (below_alloc (Below.refl _ _) _)) (by simp) (by have := HT.out.len; simp; omega) ?_; intro v1 w10 ho hb hg hat))
      have hcell1 := pw_cell_below hb hcell
      obtain ⟨T1, tc1, rfl, htc1, hT1⟩ := R_C ho
      have HTS1 := Aside0.mk hT1
      have HR1 := Aside0.mk (Kd.C_below HR.out hb)
      have HB1 := Aside0.mk (below_trans HB.out hb)
      have HT1 := Lib.hid (HT.out.next hu HTK.out)
      clear ho hb hg hat hcell HTS HR HB HT HTK hT1 htc
      generalize [u, u] ++ ts = ts1 at HTS1 HT1 htc1 ⊢
      go_wp2_with fail
      refine (stripes_any [u] (some (ad.add i)) _ k _ (by simp) (C_one hcell1) (by simp; omega) (by omega)).mono ?_
      rintro e w11 ⟨v, rfl, hv, hb⟩
      rw [stripes_one u k K1 K8] at hv
      obtain ⟨bx0, _, bx1⟩ := st_bd u k (by omega)
      replace bx1 := bx1 K1
      obtain ⟨x, hx⟩ : ∃ x, x = st u k := ⟨_, rfl⟩
      rw [← hx] at hv bx0 bx1
      have HST := Lib.hid (fun W => (by rw [hx]; exact stripe_any u k W (by omega) (by omega) : Calls Try.prog 12 #[.string u, .int .i64 k] W fun e w' => e = .returned (.int .i64 x) ∧ ∃ m, w' = W.drewN m))
      clear hx
      obtain ⟨A2, c2, rfl, hc2, hC2⟩ := R_C hv
      obtain ⟨ad2, rfl, hcell2⟩ := read_int hC2 0 (by simp)
      simp only [List.getElem_cons_zero] at hcell2
      have hcell3 := pw_cell_below hb hcell1
      have HTS2 := Aside0.mk (Kd.C_below HTS1.out hb)
      have HR2 := Aside0.mk (Kd.C_below HR1.out hb)
      have HB2 := Aside0.mk (below_trans HB1.out hb)
      clear hv hb hC2 HTS1 HR1 HB1 hcell1
      have hcell2b : w11.cell? ad2 = some (.int .i64 x) := (congrArg w11.cell? (show ad2.add 0 = ad2 by cases ad2; simp [Addr.add])).symm.trans hcell2
      have d1 : (x != x) = false := bne_self_eq_false x
      have d2 : decide (x < 0) = false := decide_eq_false (by omega)
      have d3 : decide (k ≤ x) = false := decide_eq_false (by omega)
      go_wp2_with fail
      go_quiet ((go_at_call 12; exact Calls.quiet_of (HST.out _)))
      go_wp2_with fail
      go_roundg (l.length - (i + 1))
      case measure => omega
      case rel => exact ⟨i + 1, ts1, T1, tc1, rfl, by go_num, by omega, rfl, HT1, htc1, ⟨C_drewN HTS2.out _⟩, ⟨C_drewN HR2.out _⟩, ⟨pw_below_drewN HB2.out _⟩⟩
    · obtain rfl : i = l.length := by omega
      obtain ⟨wd, rfl⟩ : ∃ wd : World, wd = wr := ⟨_, rfl⟩
      go_wp2_with fail
      refine (stripes_any l A c k _ (by omega) HR.out (fun s hs => by have := HS4.out s hs; omega) (by omega)).mono ?_
      rintro e w4 ⟨v, rfl, hv, hb⟩
      obtain ⟨A1, c1, rfl, hc1, hC1⟩ := R_C hv
      have HC1 := Aside0.mk hC1
      replace HTS := Aside0.mk (Kd.C_below HTS.out hb)
      replace HB := Aside0.mk (below_trans HB.out hb)
      clear hv hb hC1 hc1 HR
      go_wp2_with fail
      refine (stripes_any ts T tc k _ (by have := HT.out.len; omega) HTS.out (fun s hs => by have := HT.out.size s hs; omega) (by omega)).mono ?_
      rintro e w5 ⟨v, rfl, hv, hb⟩
      have hsame := stripes_same ts l k (fun s => by rw [HT.out.same, List.take_length])
      rw [hsame] at hv
      clear hsame
      obtain ⟨A2, c2, rfl, hc2, hC2⟩ := R_C hv
      have HC2 := Aside0.mk hC2
      replace HC1 := Aside0.mk (Kd.C_below HC1.out hb)
      replace HB := Aside0.mk (below_trans HB.out hb)
      clear hv hb hC2 hc2 HTS HT htc
      have hlen := stripes_len l k
      have HLT := Lib.hid (stripes_pair l k)
      generalize stripes l k = xs at HC1 HC2 hlen HLT ⊢
      go_wp2_with fail
      go_loopg [15] (xs.length) (fun g v15 wr => ∃ i : Nat, v15 = .int .i64 i ∧ i ≤ xs.length ∧ g = xs.length - i ∧ Aside0 (Kd.C (Kd.int .i64) wr A1 xs.length xs) ∧ Aside0 (Kd.C (Kd.int .i64) wr A2 xs.length xs) ∧ Aside0 (Below w.heap.size w wr))
      case atStart => exact ⟨0, rfl, by omega, by omega, HC1, HC2, HB⟩
      case round =>
        clear HC1 HC2 HB
        obtain ⟨i, rfl, hi, rfl, HC1, HC2, HB⟩ := hrel
        by_cases hlt : i < xs.length
        · obtain ⟨ad1, rfl, hcell1⟩ := read_int HC1.out i hlt
          obtain ⟨ad2, rfl, hcell2⟩ := read_int HC2.out i hlt
          by_cases h0 : i = 0
          · subst h0
            generalize xs[0] = x at hcell1 hcell2
            have hcell1b : wr.cell? ad1 = some (.int .i64 x) := (congrArg wr.cell? (show ad1.add 0 = ad1 by cases ad1; simp [Addr.add])).symm.trans hcell1
            have hcell2b : wr.cell? ad2 = some (.int .i64 x) := (congrArg wr.cell? (show ad2.add 0 = ad2 by cases ad2; simp [Addr.add])).symm.trans hcell2
            have d1 : (x != x) = false := bne_self_eq_false x
            go_wp2_with fail
            go_quiet (fail)
            go_wp2_with fail
            go_roundg (xs.length - 1)
            case measure => omega
            case rel => exact ⟨1, by go_num, by omega, rfl, ⟨C_drewN HC1.out _⟩, ⟨C_drewN HC2.out _⟩, ⟨pw_below_drewN HB.out _⟩⟩
          · obtain ⟨j, hj⟩ : ∃ j, j = i - 1 := ⟨_, rfl⟩
            obtain ⟨ad3, e3, hcell3⟩ := read_int HC1.out j (by omega)
            injection e3 with e3
            subst e3
            have hxy := List.pairwise_iff_getElem.1 HLT.out j i (by omega) hlt (by omega)
            generalize xs[j]'(by omega) = y at hcell3 hxy
            generalize xs[i] = x at hcell1 hcell2 hxy
            have d1 : (x != x) = false := bne_self_eq_false x
            have d2 : decide (0 < (i : Int)) = true := decide_eq_true (by omega)
            have d2b : 0 < i := by omega
            have d2c : (0 : Int) < (i : Int) := by omega
            have d3 : decide (x ≤ y) = false := decide_eq_false (by omega)
            have e0 : (i : Int) - 1 = (j : Int) := by omega
            have e1 : IntKind.i64.wrap ((i : Int) - 1) = (j : Int) := by rw [IntKind.wrap_i64]; omega
            have e2 : (j : Int) < (xs.length : Int) := by omega
            clear hj
            go_wp2_with fail
            go_quiet (fail)
            go_wp2_with fail
            go_roundg (xs.length - (i + 1))
            case measure => omega
            case rel => exact ⟨i + 1, by go_num, by omega, rfl, ⟨C_drewN HC1.out _⟩, ⟨C_drewN HC2.out _⟩, ⟨pw_below_drewN HB.out _⟩⟩
        · obtain rfl : i = xs.length := by omega
          obtain ⟨we, rfl⟩ : ∃ we : World, we = wr := ⟨_, rfl⟩
          clear HC1 HC2
          go_wp2_with fail
          refine (of_any s _ (by omega)).mono ?_; rintro e w6 ⟨rfl, m6, rfl⟩
          replace HB := Aside0.mk (pw_below_drewN HB.out m6)
          generalize we.drewN m6 = wf at HB ⊢
          go_wp2_with fail
          go_loopg [16, 17] (more.size) (fun g v16 v17 wr => ∃ i : Nat, v17 = .int .i64 i ∧ v16 = .int .u64 (hashL (hashOf s) (more.data.toList.take i)) ∧ i ≤ more.size ∧ g = more.size - i ∧ Aside0 (Below w.heap.size w wr))
          case atStart => exact ⟨0, rfl, rfl, by omega, by omega, HB⟩
          case round =>
            clear HB
            obtain ⟨i, rfl, rfl, hi, rfl, HB⟩ := hrel
            by_cases hlt : i < more.size
            · go_wp2_with fail
              go_roundg (more.size - (i + 1))
              case measure => omega
              case rel => exact ⟨i + 1, by go_num, congrArg _ (more_snoc s more i hlt), by omega, rfl, HB⟩
            · obtain rfl : i = more.size := by omega
              go_wp2_with fail
              refine (of_any (s ++ more) _ (by rw [ByteArray.size_append]; omega)).mono ?_; rintro e w7 ⟨rfl, m7, rfl⟩
              go_wp2_with fail
              go_ret
              refine ⟨?_, pw_below_drewN HB.out m7⟩
              rw [hashOf_append, List.take_of_length_le (by simp)]
              simp
end Go.Proofs.Ytbhngcjiciinpaa.HashOne
