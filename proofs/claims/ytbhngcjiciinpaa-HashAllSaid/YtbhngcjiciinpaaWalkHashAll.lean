/- The walk of the law HashAll. -/
import Derived.Test.YtbhngcjiciinpaaHashReads
import Derived.Deep.QuietTactic
namespace Go.Proofs.Ytbhngcjiciinpaa.HashAll
open Go.RowKit Go.Proofs.Ytbhngcjiciinpaa.PHashStripes Go.Proofs.Ytbhngcjiciinpaa.HashCommon Go.Proofs.YtbhngcjiciinpaaW.PrintWords Go.Proofs.YtbhngcjiciinpaaW.PrintLast
/-- Is any of the users in that stripe? -/
def has (l : List ByteArray) (k x : Int) : Bool := l.any fun u => decide (st u k = x)
theorem has_snoc (l : List ByteArray) (u : ByteArray) (k x : Int) : has (l ++ [u]) k x = (has l k x || decide (st u k = x)) := by
  unfold has; rw [List.any_append]; simp
theorem mem_stripes (l : List ByteArray) (k : Int) (i : Nat) (hi : i < (stripes l k).length) : has l k (stripes l k)[i] = true := by
  have := List.getElem_mem hi
  generalize (stripes l k)[i] = x at this ⊢
  unfold stripes at this
  obtain ⟨s, h1, rfl⟩ := List.mem_map.1 this
  exact (List.mem_filter.1 h1).2
theorem stripes_has (l : List ByteArray) (k : Int) (h1 : 1 ≤ k) (h8 : k ≤ 8) (u : ByteArray) (hu : u ∈ l) : st u k ∈ stripes l k := by
  obtain ⟨b0, _, b1⟩ := st_bd u k (by omega)
  have b1 := b1 h1
  unfold stripes
  refine List.mem_map.2 ⟨(st u k).toNat, List.mem_filter.2 ⟨List.mem_range.2 (by omega), ?_⟩, by omega⟩
  unfold hasSt
  exact List.any_eq_true.2 ⟨u, hu, decide_eq_true (by omega)⟩
theorem nil_iff (l : List ByteArray) (k : Int) (h1 : 1 ≤ k) (h8 : k ≤ 8) : (stripes l k).length = 0 ↔ l.length = 0 := by
  constructor
  · intro h
    cases l with
    | nil => rfl
    | cons u l =>
      have := List.length_pos_of_mem (stripes_has (u :: l) k h1 h8 u List.mem_cons_self)
      omega
  · intro h
    rw [List.eq_nil_of_length_eq_zero h]
    rfl
set_option maxHeartbeats 8000000 in
set_option maxRecDepth 100000 in
theorem walk (A : Option Addr) (c : Nat) (l : List ByteArray) (n : Int) (w : World) (hr : Kd.C Kd.string w A l.length l) (hc : l.length ≤ c) (_ : ∀ s ∈ l, s.size ≤ maxLen) (hy : l.length * 16 ≤ 140737488351232) (wn : (Lit.int .u8 n).wf = true) :
    Calls Try.prog 8 #[.slice A l.length c, .int .u8 n] w fun e w' => e = .returned (.bool true) ∧ Below w.heap.size w w' := by
  obtain ⟨n0, n1⟩ := bounds_u8 wn
  have hl : l.length ≤ 9223372036854775000 := by omega
  have HC := Lib.hid hc
  have HL := Lib.hid hl
  have HR := Aside0.mk hr
  have HB := Aside0.mk (Below.refl w.heap.size w)
  clear hc hl hr hy wn
  go_enter Try.func8, Try.ntmps8
  go_wp2_with fail
  refine (awake_any _).mono ?_; rintro e w1 ⟨rfl, m1, rfl⟩
  replace HR := Aside0.mk (C_drewN HR.out m1)
  replace HB := Aside0.mk (pw_below_drewN HB.out m1)
  generalize w.drewN m1 = wa at HR HB ⊢
  obtain ⟨r, hlong, hlim⟩ := long_any l A c wa HL.out HR.out HC.out
  have HLim := Lib.hid hlim
  have HLong := Lib.hid hlong
  clear hlim hlong
  go_wp2_with fail
  refine HLong.out.mono ?_; rintro e w2 ⟨rfl, hb⟩
  replace HR := Aside0.mk (Kd.C_below HR.out hb)
  replace HB := Aside0.mk (below_trans HB.out hb)
  clear hb HLong
  cases r with
  | true =>
    go_wp2_with fail
    refine (awake_any _).mono ?_; rintro e w3 ⟨rfl, m3, rfl⟩
    go_wp2_with fail
    go_ret
    exact ⟨rfl, pw_below_drewN HB.out m3⟩
  | false =>
    obtain ⟨h400, hs400⟩ := HLim.out rfl
    have H4 := Lib.hid h400
    have HS4 := Lib.hid hs400
    clear hs400 HLim
    go_wp2_with fail
    have K1 : 1 ≤ 1 + n % 8 := by omega
    have K8 : 1 + n % 8 ≤ 8 := by omega
    generalize 1 + n % 8 = k at K1 K8 ⊢
    refine (stripes_any l A c k _ (by have := H4.out; omega) HR.out (fun s hs => by have := HS4.out s hs; omega) (by omega)).mono ?_
    rintro e w4 ⟨v, rfl, hv, hb⟩
    replace HR := Aside0.mk (Kd.C_below HR.out hb)
    replace HB := Aside0.mk (below_trans HB.out hb)
    obtain ⟨A1, c1, rfl, hc1, hC1⟩ := R_C hv
    have HC1 := Aside0.mk hC1
    clear hv hb hC1 hc1
    have hlen := stripes_len l k
    have HIn := Lib.hid (mem_stripes l k)
    have HHas := Lib.hid (stripes_has l k K1 K8)
    have HNil := Lib.hid (nil_iff l k K1 K8)
    generalize stripes l k = xs at HC1 hlen HIn HHas HNil ⊢
    go_wp2_with fail
    go_loopg [7] (xs.length) (fun g v7 wr => ∃ i : Nat, v7 = .int .i64 i ∧ i ≤ xs.length ∧ g = xs.length - i ∧ Aside0 (Kd.C Kd.string wr A l.length l) ∧ Aside0 (Kd.C (Kd.int .i64) wr A1 xs.length xs) ∧ Aside0 (Below w.heap.size w wr))
    case atStart => exact ⟨0, rfl, by omega, by omega, HR, HC1, HB⟩
    case round =>
      clear HR HC1 HB
      obtain ⟨i, rfl, hi, rfl, HR, HC1, HB⟩ := hrel
      by_cases hlt : i < xs.length
      · have HX := Lib.hid (HIn.out i hlt)
        obtain ⟨x, hx⟩ : ∃ x, x = xs[i] := ⟨_, rfl⟩
        rw [← hx] at HX
        have HXE := Lib.hid hx
        clear hx
        go_wp2_with fail
        go_loopg [8, 9] (l.length) (fun g v8 v9 wr => ∃ (b : Bool) (j : Nat), v8 = .bool b ∧ v9 = .int .i64 j ∧ b = has (l.take j) k x ∧ j ≤ l.length ∧ g = l.length - j ∧ Aside0 (Kd.C Kd.string wr A l.length l) ∧ Aside0 (Kd.C (Kd.int .i64) wr A1 xs.length xs) ∧ Aside0 (Below w.heap.size w wr))
        case atStart => exact ⟨false, 0, rfl, rfl, rfl, by omega, by omega, HR, HC1, HB⟩
        case round =>
          clear HR HC1 HB
          obtain ⟨b, j, rfl, rfl, hb, hj, rfl, HR, HC1, HB⟩ := hrel
          have HB' := Lib.hid hb
          clear hb
          by_cases hjl : j < l.length
          · obtain ⟨ad1, rfl, hcell1⟩ := read_int HC1.out i hlt
            obtain ⟨ad2, rfl, hcell2⟩ := read_str HR.out j hjl
            rw [← HXE.out] at hcell1
            have hu : l[j].size ≤ 400 := HS4.out _ (List.getElem_mem hjl)
            have HT := Lib.hid (List.take_succ_eq_append_getElem hjl)
            generalize l[j] = u at hcell2 hu HT
            cases b with
            | true =>
              go_wp2_with fail
              go_quiet (fail)
              go_wp2_with fail
              go_roundg (l.length - (j + 1))
              case measure => omega
              case rel => exact ⟨true, j + 1, rfl, by go_num, by rw [HT.out, has_snoc, ← HB'.out]; rfl, by omega, rfl, ⟨C_drewN HR.out _⟩, ⟨C_drewN HC1.out _⟩, ⟨pw_below_drewN HB.out _⟩⟩
            | false =>
              go_wp2_with fail
              go_quiet ((go_at_call 12; exact Calls.quiet_of (stripe_any u k _ (by omega) (by omega))))
              go_wp2_with fail
              go_roundg (l.length - (j + 1))
              case measure => omega
              case rel => exact ⟨(st u k == x), j + 1, rfl, by go_num, by rw [HT.out, has_snoc, ← HB'.out]; rfl, by omega, rfl, ⟨C_drewN HR.out _⟩, ⟨C_drewN HC1.out _⟩, ⟨pw_below_drewN HB.out _⟩⟩
          · obtain rfl : j = l.length := by omega
            have e := HB'.out
            rw [List.take_length, HX.out] at e
            subst e
            go_wp2_with fail
            go_roundg (xs.length - (i + 1))
            case measure => omega
            case rel => exact ⟨i + 1, by go_num, by omega, rfl, HR, HC1, HB⟩
      · obtain rfl : i = xs.length := by omega
        obtain ⟨wb, rfl⟩ : ∃ wb : World, wb = wr := ⟨_, rfl⟩
        go_wp2_with fail
        clear HIn
        go_loopg [10] (l.length) (fun g v10 wr => ∃ j : Nat, v10 = .int .i64 j ∧ j ≤ l.length ∧ g = l.length - j ∧ Aside0 (Kd.C Kd.string wr A l.length l) ∧ Aside0 (Kd.C (Kd.int .i64) wr A1 xs.length xs) ∧ Aside0 (Below w.heap.size w wr))
        case atStart => exact ⟨0, rfl, by omega, by omega, HR, HC1, HB⟩
        case round =>
          clear HR HC1 HB
          obtain ⟨j, rfl, hj, rfl, HR, HC1, HB⟩ := hrel
          by_cases hlt : j < l.length
          · have HX := Lib.hid (HHas.out l[j] (List.getElem_mem hlt))
            have hu : l[j].size ≤ 400 := HS4.out _ (List.getElem_mem hlt)
            obtain ⟨u, hx⟩ : ∃ u, u = l[j] := ⟨_, rfl⟩
            rw [← hx] at HX hu
            have HXE := Lib.hid hx
            clear hx
            go_wp2_with fail
            go_loopg [11, 12] (xs.length) (fun g v11 v12 wr => ∃ (b : Bool) (i : Nat), v11 = .bool b ∧ v12 = .int .i64 i ∧ b = (xs.take i).any (fun x => st u k == x) ∧ i ≤ xs.length ∧ g = xs.length - i ∧ Aside0 (Kd.C Kd.string wr A l.length l) ∧ Aside0 (Kd.C (Kd.int .i64) wr A1 xs.length xs) ∧ Aside0 (Below w.heap.size w wr))
            case atStart => exact ⟨false, 0, rfl, rfl, rfl, by omega, by omega, HR, HC1, HB⟩
            case round =>
              clear HR HC1 HB
              obtain ⟨b, i, rfl, rfl, hb, hi, rfl, HR, HC1, HB⟩ := hrel
              have HB' := Lib.hid hb
              clear hb
              by_cases hil : i < xs.length
              · obtain ⟨ad1, rfl, hcell1⟩ := read_int HC1.out i hil
                obtain ⟨ad2, rfl, hcell2⟩ := read_str HR.out j hlt
                rw [← HXE.out] at hcell2
                have HT := Lib.hid (List.take_succ_eq_append_getElem hil)
                generalize xs[i] = x at hcell1 HT
                cases b with
                | true =>
                  go_wp2_with fail
                  go_quiet (fail)
                  go_wp2_with fail
                  go_roundg (xs.length - (i + 1))
                  case measure => omega
                  case rel => exact ⟨true, i + 1, rfl, by go_num, by rw [HT.out, List.any_append, ← HB'.out]; rfl, by omega, rfl, ⟨C_drewN HR.out _⟩, ⟨C_drewN HC1.out _⟩, ⟨pw_below_drewN HB.out _⟩⟩
                | false =>
                  go_wp2_with fail
                  go_quiet ((go_at_call 12; exact Calls.quiet_of (stripe_any u k _ (by omega) (by omega))))
                  go_wp2_with fail
                  go_roundg (xs.length - (i + 1))
                  case measure => omega
                  case rel => exact ⟨(st u k == x), i + 1, rfl, by go_num, by rw [HT.out, List.any_append, ← HB'.out]; simp, by omega, rfl, ⟨C_drewN HR.out _⟩, ⟨C_drewN HC1.out _⟩, ⟨pw_below_drewN HB.out _⟩⟩
              · obtain rfl : i = xs.length := by omega
                have e := HB'.out
                rw [List.take_length, List.any_eq_true.2 ⟨_, HX.out, beq_self_eq_true _⟩] at e
                subst e
                go_wp2_with fail
                go_roundg (l.length - (j + 1))
                case measure => omega
                case rel => exact ⟨j + 1, by go_num, by omega, rfl, HR, HC1, HB⟩
          · obtain rfl : j = l.length := by omega
            go_wp2_with fail
            go_ret
            refine ⟨?_, HB.out⟩
            have e : ((xs.length : Int) == 0) = ((l.length : Int) == 0) := by
              have := HNil.out
              rw [Bool.eq_iff_iff]
              simp only [beq_iff_eq]
              omega
            first
              | (rw [e, beq_self_eq_true]; done)
              | (simp only [e, beq_self_eq_true]; done)
              | (simp [e]; done)
end Go.Proofs.Ytbhngcjiciinpaa.HashAll
