/- Two facts on numbers of 64 bits: the lowest bit read, and the lowest bit cleared. -/
import Derived.Laws.BitsAllLaws
import Derived.Laws.Bits64
import Derived.OpenShut
namespace Go.Proofs.Ytghhjmdolmadeaa.CellBits
theorem and_even (a : Nat) (h : a < 18446744073709551616) : a &&& 18446744073709551614 = a - a % 2 := by
  have h1 : (a &&& 18446744073709551614) / 2 = a / 2 := by
    rw [Nat.and_div_two]
    have := Nat.and_two_pow_sub_one_eq_mod (a / 2) 63
    rw [show (18446744073709551614 / 2 : Nat) = 2 ^ 63 - 1 from rfl, this]
    exact Nat.mod_eq_of_lt (by omega)
  have h2 : (a &&& 18446744073709551614) % 2 = 0 := by
    have := @Nat.and_mod_two_pow a 18446744073709551614 1
    rw [show (2 ^ 1 : Nat) = 2 from rfl] at this
    rw [this, show (18446744073709551614 % 2 : Nat) = 0 from rfl, Nat.and_zero]
  omega
theorem andNot1 (a : Int) (h0 : 0 ≤ a) (h1 : a ≤ 18446744073709551615) : bits .andNot .u64 a 1 = a - a % 2 := by
  rw [u64_andNot a 1 h0 (by omega) (by decide) (by decide)]
  rw [show (18446744073709551615 - (1 : Int).toNat : Nat) = 18446744073709551614 from rfl, and_even _ (by omega)]
  omega
theorem and1 (a : Int) (h0 : 0 ≤ a) (h1 : a ≤ 18446744073709551615) : bits .and .u64 a 1 = a % 2 := by
  rw [u64_and a 1 h0 (by omega) (by decide) (by decide)]
  rw [show ((1 : Int).toNat : Nat) = 1 from rfl, Nat.and_one_is_mod]
  omega
theorem tmod2 (a : Int) (h0 : 0 ≤ a) : Int.tmod a 2 = a % 2 := Int.tmod_eq_emod_of_nonneg h0
theorem wrapIn (a : Int) (h0 : 0 ≤ a) (h1 : a ≤ 18446744073709551615) : IntKind.u64.wrap a = a := by rw [IntKind.wrap_u64]; omega
end Go.Proofs.Ytghhjmdolmadeaa.CellBits
