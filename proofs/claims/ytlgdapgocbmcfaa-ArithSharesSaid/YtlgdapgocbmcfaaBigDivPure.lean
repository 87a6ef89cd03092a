/- One digit of a long division. No program in sight. -/
import Derived.Test.YtlgdapgocbmcfaaBigTimes
namespace Go.Proofs.Ytlgdapgocbmcfaa
open Go.RowKit
variable {u d y yn1 yn0 q r : Nat}
/-- What a guess is off by. -/
theorem dig_eq (hy : y = yn1 * 4294967296 + yn0) (hI : q * yn1 + r = u) : u * 4294967296 + d + q * yn0 = q * y + r * 4294967296 + d := by
  subst hy; subst hI
  rw [Nat.mul_add, Nat.add_mul, Nat.mul_assoc q yn1]
  omega
theorem dig_init (hy : y = yn1 * 4294967296 + yn0) (h1 : 2147483648 ≤ yn1) (hd : d < 4294967296) : (u * 4294967296 + d) / y ≤ u / yn1 := by
  have hp : 0 < y := by omega
  rw [Nat.le_div_iff_mul_le (by omega)]
  have h2 := Nat.div_mul_le_self (u * 4294967296 + d) y
  generalize (u * 4294967296 + d) / y = Q at *
  rw [hy, Nat.mul_add, ← Nat.mul_assoc] at h2
  generalize Q * yn1 = z at *
  omega
theorem dig_top (hy : y = yn1 * 4294967296 + yn0) (h1 : 2147483648 ≤ yn1) (h0 : yn0 < 4294967296) (hu : u < y) : u / yn1 ≤ 4294967297 := by
  have h3 : u / yn1 < 4294967298 := by
    rw [Nat.div_lt_iff_lt_mul (by omega)]
    omega
  omega
theorem dig_small (hy : y = yn1 * 4294967296 + yn0) (hu : u < y) (hd : d < 4294967296) : (u * 4294967296 + d) / y < 4294967296 := by
  rw [Nat.div_lt_iff_lt_mul (by omega)]
  omega
theorem dig_false (hy : y = yn1 * 4294967296 + yn0) (hp : 0 < y) (hI : q * yn1 + r = u) (hQ : (u * 4294967296 + d) / y ≤ q) (h : q * yn0 ≤ 4294967296 * r + d) : q = (u * 4294967296 + d) / y := by
  have e := dig_eq (d := d) hy hI
  have : q ≤ (u * 4294967296 + d) / y := by rw [Nat.le_div_iff_mul_le hp]; omega
  omega
theorem dig_true (hy : y = yn1 * 4294967296 + yn0) (hp : 0 < y) (hu : u < y) (hd : d < 4294967296) (hI : q * yn1 + r = u) (hQ : (u * 4294967296 + d) / y ≤ q) (h : 4294967296 ≤ q ∨ 4294967296 * r + d < q * yn0) :
    1 ≤ q ∧ (u * 4294967296 + d) / y ≤ q - 1 ∧ (q - 1) * yn1 + (r + yn1) = u := by
  have hs := dig_small hy hu hd
  have e := dig_eq (d := d) hy hI
  have h1 : 1 ≤ q := by
    rcases h with h | h
    · omega
    · refine Nat.pos_of_ne_zero fun h0 => ?_
      subst h0
      simp at h
  refine ⟨h1, ?_, ?_⟩
  · rcases h with h | h
    · omega
    · have : (u * 4294967296 + d) / y < q := by rw [Nat.div_lt_iff_lt_mul hp]; omega
      omega
  · obtain ⟨k, rfl⟩ : ∃ k, q = k + 1 := ⟨q - 1, by omega⟩
    rw [Nat.add_sub_cancel]
    rw [Nat.add_mul, Nat.one_mul] at hI
    omega
theorem dig_break (hy : y = yn1 * 4294967296 + yn0) (hp : 0 < y) (h0 : yn0 < 4294967296) (hq : q ≤ 4294967296) (hI : q * yn1 + r = u) (hQ : (u * 4294967296 + d) / y ≤ q) (h : 4294967296 ≤ r) : q = (u * 4294967296 + d) / y := by
  refine dig_false hy hp hI hQ ?_
  have : q * yn0 ≤ 4294967296 * yn0 := Nat.mul_le_mul_right _ hq
  omega
/-- Two digits. -/
theorem two_digits {u y d1 d0 : Nat} (hp : 0 < y) :
    (u * 18446744073709551616 + (d1 * 4294967296 + d0)) / y = (u * 4294967296 + d1) / y * 4294967296 + ((u * 4294967296 + d1) % y * 4294967296 + d0) / y ∧
    (u * 18446744073709551616 + (d1 * 4294967296 + d0)) % y = ((u * 4294967296 + d1) % y * 4294967296 + d0) % y := by
  have h := Nat.div_add_mod (u * 4294967296 + d1) y
  have e : u * 18446744073709551616 + (d1 * 4294967296 + d0) = ((u * 4294967296 + d1) % y * 4294967296 + d0) + y * ((u * 4294967296 + d1) / y * 4294967296) := by
    rw [← Nat.mul_assoc]
    omega
  rw [e, Nat.add_mul_div_left _ _ hp, Nat.add_mul_mod_self_left]
  exact ⟨Nat.add_comm _ _, rfl⟩
/-- Both shifted. -/
theorem shifted (x y s : Nat) : (x * 2 ^ s) / (y * 2 ^ s) = x / y ∧ (x * 2 ^ s) % (y * 2 ^ s) = x % y * 2 ^ s :=
  ⟨Nat.mul_div_mul_right _ _ (Nat.pow_pos (by omega)), Nat.mul_mod_mul_right _ _ _⟩
theorem shift_parts {hi lo s : Nat} (hs : s ≤ 64) :
    (hi * 18446744073709551616 + lo) * 2 ^ s = (hi * 2 ^ s + lo / 2 ^ (64 - s)) * 18446744073709551616 + lo * 2 ^ s % 18446744073709551616 := by
  have e : (18446744073709551616 : Nat) = 2 ^ (64 - s) * 2 ^ s := by rw [← Nat.pow_add, show 64 - s + s = 64 by omega]
  have h1 := Nat.div_add_mod lo (2 ^ (64 - s))
  have h2 : lo * 2 ^ s % 18446744073709551616 = lo % 2 ^ (64 - s) * 2 ^ s := by
    rw [e, Nat.mul_mod_mul_right]
  have h3 : lo * 2 ^ s = lo / 2 ^ (64 - s) * 18446744073709551616 + lo % 2 ^ (64 - s) * 2 ^ s := by
    rw [e]
    conv => lhs; rw [← h1]
    rw [Nat.add_mul, Nat.mul_comm (2 ^ (64 - s)) (lo / 2 ^ (64 - s)), Nat.mul_assoc]
  rw [h2, Nat.add_mul, Nat.add_mul, h3, Nat.mul_right_comm]
  omega
end Go.Proofs.Ytlgdapgocbmcfaa
