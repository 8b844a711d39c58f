/- The walk of the law HashStripes. -/
import Derived.Test.YtbhngcjiciinpaaHashReads
namespace Go.Proofs.Ytbhngcjiciinpaa.HashStripes
open Go.RowKit Go.Proofs.Ytbhngcjiciinpaa.PHashStripes Go.Proofs.Ytbhngcjiciinpaa.HashCommon Go.Proofs.YtbhngcjiciinpaaW.PrintWords Go.Proofs.YtbhngcjiciinpaaW.PrintLast
set_option maxHeartbeats 4000000 in
set_option maxRecDepth 100000 in
theorem walk (A : Option Addr) (c : Nat) (l : List ByteArray) (n : Int) (w : World) (hr : Kd.C Kd.string w A l.length l) (hc : l.length ≤ c) (_ : ∀ s ∈ l, s.size ≤ maxLen) (hy : l.length * 16 ≤ 140737488351232) (hn0 : (Lit.int .i64 n).wf = true) :
    Calls Try.prog 5 #[.slice A l.length c, .int .i64 n] w fun e w' => e = .returned (.bool true) ∧ Below w.heap.size w w' := by
  have hn : n ≤ 9223372036854775807 := (bounds_i64 hn0).2
  have hl : l.length ≤ 9223372036854775000 := by omega
  have HN := Lib.hid hn
  have HC := Lib.hid hc
  have HL := Lib.hid hl
  have HR := Aside0.mk hr
  have HB := Aside0.mk (Below.refl w.heap.size w)
  clear hn hc hl hr hy hn0
  go_enter Try.func5, Try.ntmps5
  go_wp2_with fail
  refine (awake_any _).mono ?_; rintro e w1 ⟨rfl, m1, rfl⟩
  replace HR := Aside0.mk (C_drewN HR.out m1)
  replace HB := Aside0.mk (pw_below_drewN HB.out m1)
  generalize w.drewN m1 = wa at HR HB ⊢
  obtain ⟨r, hlong, hlim⟩ := long_any l A c wa HL.out HR.out HC.out
  have HLim := Lib.hid hlim
  have HLong := Lib.hid hlong
  clear hlim hlong
  go_wp2_with fail
  refine HLong.out.mono ?_; rintro e w2 ⟨rfl, hb⟩
  replace HR := Aside0.mk (Kd.C_below HR.out hb)
  replace HB := Aside0.mk (below_trans HB.out hb)
  clear hb HLong
  cases r with
  | true =>
    go_wp2_with fail
    refine (awake_any _).mono ?_; rintro e w3 ⟨rfl, m3, rfl⟩
    go_wp2_with fail
    go_ret
    exact ⟨rfl, pw_below_drewN HB.out m3⟩
  | false =>
    obtain ⟨h400, hs400⟩ := HLim.out rfl
    have H4 := Lib.hid h400
    have HS4 := Lib.hid hs400
    clear h400 hs400 HLim
    go_wp2_with fail
    refine (stripes_any l A c n _ (by have := H4.out; omega) HR.out (fun s hs => by have := HS4.out s hs; omega) HN.out).mono ?_
    rintro e w4 ⟨v, rfl, hv, hb⟩
    replace HR := Aside0.mk (Kd.C_below HR.out hb)
    replace HB := Aside0.mk (below_trans HB.out hb)
    obtain ⟨A1, c1, rfl, hc1, hC1⟩ := R_C hv
    have HC1 := Aside0.mk hC1
    clear hv hb hC1 hc1
    go_wp2_with fail
    refine (refStripes_any l A c n _ (by have := H4.out; omega) HR.out HC.out (fun s hs => by have := HS4.out s hs; omega) HN.out).mono ?_
    rintro e w5 ⟨v, rfl, hv, hb⟩
    replace HC1 := Aside0.mk (Kd.C_below HC1.out hb)
    replace HB := Aside0.mk (below_trans HB.out hb)
    obtain ⟨A2, c2, rfl, hc2, hC2⟩ := R_C hv
    have HC2 := Aside0.mk hC2
    clear hv hb hC2 hc2 HR
    have hlen := stripes_len l n
    generalize stripes l n = xs at HC1 HC2 hlen ⊢
    go_wp2_with fail
    go_loopg [7] (xs.length) (fun g v7 wr => ∃ i : Nat, v7 = .int .i64 i ∧ i ≤ xs.length ∧ g = xs.length - i ∧ Aside0 (Kd.C (Kd.int .i64) wr A1 xs.length xs) ∧ Aside0 (Kd.C (Kd.int .i64) wr A2 xs.length xs) ∧ Aside0 (Below w.heap.size w wr))
    case atStart => exact ⟨0, rfl, by omega, by omega, HC1, HC2, HB⟩
    case round =>
      clear HC1 HC2 HB
      obtain ⟨i, rfl, hi, rfl, HC1, HC2, HB⟩ := hrel
      by_cases hlt : i < xs.length
      · obtain ⟨ad1, rfl, hcell1⟩ := read_int HC1.out i hlt
        obtain ⟨ad2, rfl, hcell2⟩ := read_int HC2.out i hlt
        generalize xs[i] = u at hcell1 hcell2
        go_wp2_with fail
        go_quiet (fail)
        go_wp2_with fail
        go_roundg (xs.length - (i + 1))
        case measure => omega
        case rel => exact ⟨i + 1, by go_num, by omega, rfl, ⟨C_drewN HC1.out _⟩, ⟨C_drewN HC2.out _⟩, ⟨pw_below_drewN HB.out _⟩⟩
      · obtain rfl : i = xs.length := by omega
        go_wp2_with fail
        go_ret
        exact ⟨rfl, HB.out⟩
end Go.Proofs.Ytbhngcjiciinpaa.HashStripes
