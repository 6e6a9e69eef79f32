/- The bits of a whole number as a word: plain. -/
import Derived.Test.YtlnoejmckpimnaaNumT
namespace Go.Proofs.Ytlnoejmckpimnaa
open Go.RowKit Ieee

def sgI (s : Bool) : Int := if s then 9223372036854775808 else 0
theorem or_mul (i a b : Nat) (hb : b < 2 ^ i) (h : 2 ^ i * a + b < 18446744073709551616) : Go.bits .or .u64 ((2 ^ i * a : Nat) : Int) (b : Int) = ((2 ^ i * a + b : Nat) : Int) := by
  rw [u64_or_nat _ _ (by omega) (by omega)]
  congr 1
  exact (Nat.two_pow_add_eq_or_of_lt hb a).symm
theorem or_sign (s : Bool) (r : Nat) (hr : r < 9223372036854775808) : Go.bits .or .u64 (sgI s) (r : Int) = ((double.word s r : Nat) : Int) := by
  have hs : double.signWeight = 9223372036854775808 := by decide
  unfold Format.word
  rw [hs]
  cases s
  · have h := or_mul 63 0 r (by omega) (by omega)
    rw [show (2 ^ 63 * 0 : Nat) = 0 from rfl, Nat.zero_add] at h
    exact h
  · have h := or_mul 63 1 r (by omega) (by omega)
    rw [show (2 ^ 63 * 1 : Nat) = 9223372036854775808 from by decide] at h
    exact h
theorem word_even (s : Bool) (p : Nat) : ∃ a, double.word s (p * 4503599627370496) = 2 ^ 52 * a ∧ a = (if s then 2048 else 0) + p := by
  have hs : double.signWeight = 9223372036854775808 := by decide
  unfold Format.word
  rw [hs, show (2 : Nat) ^ 52 = 4503599627370496 from by decide]
  cases s
  · exact ⟨0 + p, by simp; omega, rfl⟩
  · exact ⟨2048 + p, by simp; omega, rfl⟩
theorem frac_all (y : Nat) (h : y < 18446744073709551616) : Go.bits .and .u64 (y : Int) 4503599627370495 = ((y % 4503599627370496 : Nat) : Int) := by
  rw [show (4503599627370495 : Int) = ((4503599627370495 : Nat) : Int) from rfl, u64_and_nat _ _ h (by decide)]
  rw [show (4503599627370495 : Nat) = 2 ^ 52 - 1 from by decide, Nat.and_two_pow_sub_one_eq_mod]
theorem wrap_small {y : Nat} (h : y < 18446744073709551616) : IntKind.u64.wrap (y : Int) = y := by
  show (y : Int) % 18446744073709551616 = y
  omega

theorem out_low (s : Bool) {n k : Nat} (hk : k ≤ 52) (h1 : 4503599627370496 ≤ n * 2 ^ (52 - k)) (h2 : n * 2 ^ (52 - k) < 9007199254740992) :
    Go.bits .or .u64 (Go.bits .or .u64 (sgI s) (((k : Int) + 1023) * 4503599627370496)) (Go.bits .and .u64 (IntKind.u64.wrap ((n : Int) * 2 ^ (52 - k))) 4503599627370495) = ((double.word s ((k + 1022) * 4503599627370496 + n * 2 ^ (52 - k)) : Nat) : Int) := by
  have e : (n : Int) * 2 ^ (52 - k) = ((n * 2 ^ (52 - k) : Nat) : Int) := by push_cast; rfl
  rw [e]
  generalize n * 2 ^ (52 - k) = M at *
  rw [wrap_small (by omega), frac_all M (by omega), show (((k : Int) + 1023) * 4503599627370496) = (((k + 1023) * 4503599627370496 : Nat) : Int) by omega, or_sign s _ (by omega)]
  obtain ⟨a, ha, ha2⟩ := word_even s (k + 1023)
  have hb : a < 4096 := by rw [ha2]; split <;> omega
  have hs : double.signWeight = 9223372036854775808 := by decide
  have key : double.word s ((k + 1023) * 4503599627370496) + M % 4503599627370496 = double.word s ((k + 1022) * 4503599627370496 + M) := by
    unfold Format.word
    rw [hs]
    cases s
    · rw [if_neg (by decide), if_neg (by decide)]; omega
    · rw [if_pos rfl, if_pos rfl]; omega
  rw [← key, ha]
  exact or_mul 52 a (M % 4503599627370496) (by omega) (by omega)

theorem wrap_mod (z : Int) : IntKind.u64.wrap z = z % 18446744073709551616 := rfl
theorem out_high (s : Bool) {k t : Nat} (hk : k ≤ 63) (ht : t ≤ 9007199254740992) (v : Int) (hv : v = t) :
    Go.bits .or .u64 (sgI s) (IntKind.u64.wrap (IntKind.u64.wrap (((k : Int) + 1023) * 4503599627370496 + v) - 4503599627370496)) = ((double.word s ((k + 1022) * 4503599627370496 + t) : Nat) : Int) := by
  subst hv
  have e : (((((k : Int) + 1023) * 4503599627370496 + (t : Int)) % 18446744073709551616 - 4503599627370496) % 18446744073709551616) = (((k + 1022) * 4503599627370496 + t : Nat) : Int) := by omega
  rw [wrap_mod, wrap_mod, e]
  exact or_sign s _ (by omega)

theorem rest_is {n d : Nat} (hn : n < 18446744073709551616) (hd : 1 ≤ d) (hd2 : d ≤ 11) : Go.bits .and .u64 (n : Int) (IntKind.u64.wrap (IntKind.u64.wrap (2 ^ d) - 1)) = ((n % 2 ^ d : Nat) : Int) ∧ IntKind.u64.wrap (2 ^ (d - 1)) = ((2 ^ (d - 1) : Nat) : Int) ∧ 2 ^ d = 2 * 2 ^ (d - 1) ∧ 2 ^ d ≤ 2048 := by
  have hp : 2 ^ d ≤ 2 ^ 11 := Nat.pow_le_pow_right (by decide) hd2
  have hp0 : 0 < 2 ^ d := Nat.two_pow_pos d
  have e1 : ((2 : Int) ^ d) = ((2 ^ d : Nat) : Int) := by push_cast; rfl
  have e2 : ((2 : Int) ^ (d - 1)) = ((2 ^ (d - 1) : Nat) : Int) := by push_cast; rfl
  have e3 : 2 ^ d = 2 * 2 ^ (d - 1) := by
    obtain ⟨c, rfl⟩ : ∃ c, d = c + 1 := ⟨d - 1, by omega⟩
    rw [Nat.add_sub_cancel, Nat.pow_succ, Nat.mul_comm]
  have m := Nat.and_two_pow_sub_one_eq_mod n d
  refine ⟨?_, by rw [e2, wrap_small (by omega)], e3, by omega⟩
  rw [e1, wrap_small (by omega), ← m]
  generalize 2 ^ d = P at *
  rw [show ((P : Int) - 1) = ((P - 1 : Nat) : Int) by omega, wrap_small (by omega), u64_and_nat _ _ hn (by omega)]
theorem odd_is {n d : Nat} (hn : n < 18446744073709551616) : ((n : Int) / 2 ^ d) = ((n / 2 ^ d : Nat) : Int) ∧ Go.bits .and .u64 ((n / 2 ^ d : Nat) : Int) 1 = ((n / 2 ^ d % 2 : Nat) : Int) := by
  have hl : n / 2 ^ d ≤ n := Nat.div_le_self _ _
  refine ⟨by push_cast; rfl, ?_⟩
  rw [show (1 : Int) = ((1 : Nat) : Int) from rfl, u64_and_nat _ _ (by omega) (by decide), show (1 : Nat) = 2 ^ 1 - 1 from rfl, Nat.and_two_pow_sub_one_eq_mod]
end Go.Proofs.Ytlnoejmckpimnaa
