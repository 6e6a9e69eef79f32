/- Whole numbers as words: plain. -/
import Derived.Test.YtlnoejmckpimnaaNumN
namespace Go.Proofs.Ytlnoejmckpimnaa
open Go.RowKit Ieee

/-- What a whole number's digits come to at 53 of them. -/
def digitsN (n : Nat) : Nat :=
  if n.log2 ≤ 52 then n * 2 ^ (52 - n.log2)
  else n / 2 ^ (n.log2 - 52) + (if 2 ^ (n.log2 - 52) < 2 * (n % 2 ^ (n.log2 - 52)) ∨ 2 ^ (n.log2 - 52) = 2 * (n % 2 ^ (n.log2 - 52)) ∧ n / 2 ^ (n.log2 - 52) % 2 = 1 then 1 else 0)

theorem cut_even (s : Bool) (n d : Nat) (hd : d ≤ n.log2 + 2) : Toward.even.cut s n d = n / 2 ^ d + (if 2 ^ d < 2 * (n % 2 ^ d) ∨ 2 ^ d = 2 * (n % 2 ^ d) ∧ n / 2 ^ d % 2 = 1 then 1 else 0) := by
  unfold Toward.cut
  simp only [Nat.min_eq_left hd, Nat.one_shiftLeft]
  generalize n / 2 ^ d = q
  generalize n % 2 ^ d = r
  generalize 2 ^ d = e
  by_cases h1 : e < 2 * r
  · simp [h1]
  · by_cases h2 : e = 2 * r
    · have h3 : q % 2 = 0 ∨ q % 2 = 1 := by omega
      rcases h3 with h3 | h3 <;> simp [h1, h2, h3]
    · simp [h1, h2]

theorem nearest_whole (s : Bool) (n : Nat) (h0 : n ≠ 0) (hn : n < 18446744073709551616) : double.nearest s n 0 = double.word s ((n.log2 + 1022) * 4503599627370496 + digitsN n) := by
  have hl : n.log2 < 64 := (Nat.log2_lt h0).2 hn
  unfold Format.nearest
  rw [if_neg h0]
  have hfb : (double.fractionBits : Int) = 52 := rfl
  have hlp : double.leastPlace = -1074 := by decide
  have hb : double.binade = 4503599627370496 := by decide
  have hi : double.infRung = infR := by decide
  have hlast : max ((0 : Int) + (n.log2 : Int) - 52) (-1074) = (n.log2 : Int) - 52 := by omega
  simp only [hfb, hlp, hlast, hb, hi]
  have e3 : ((n.log2 : Int) - 52 - -1074).toNat = n.log2 + 1022 := by omega
  rw [e3]
  congr 1
  have hdig : digitsN n ≤ 9007199254740992 := by
    unfold digitsN
    split
    · rename_i h
      have h1 : n < 2 ^ (n.log2 + 1) := Nat.lt_log2_self
      have h2 : n * 2 ^ (52 - n.log2) < 2 ^ (n.log2 + 1) * 2 ^ (52 - n.log2) := Nat.mul_lt_mul_of_pos_right h1 (Nat.two_pow_pos _)
      rw [← Nat.pow_add, show n.log2 + 1 + (52 - n.log2) = 53 by omega] at h2
      omega
    · rename_i h
      have h1 : n < 2 ^ (n.log2 + 1) := Nat.lt_log2_self
      have h2 : n / 2 ^ (n.log2 - 52) < 2 ^ 53 := by
        apply Nat.div_lt_of_lt_mul
        rw [← Nat.pow_add, show n.log2 - 52 + 53 = n.log2 + 1 by omega]
        exact h1
      split <;> omega
  have fin : ∀ d, d = digitsN n → min ((n.log2 + 1022) * 4503599627370496 + d) infR = (n.log2 + 1022) * 4503599627370496 + digitsN n := by
    rintro d rfl
    unfold infR
    apply Nat.min_eq_left
    omega
  apply fin
  unfold digitsN
  by_cases h : n.log2 ≤ 52
  · rw [if_pos h]
    have e1 : ((0 : Int) - ((n.log2 : Int) - 52)).toNat = 52 - n.log2 := by omega
    have e2 : (((n.log2 : Int) - 52) - 0).toNat = 0 := by omega
    rw [e1, e2, Nat.shiftLeft_eq, cut_even _ _ _ (by omega)]
    simp
    omega
  · rw [if_neg h]
    have e1 : ((0 : Int) - ((n.log2 : Int) - 52)).toNat = 0 := by omega
    have e2 : (((n.log2 : Int) - 52) - 0).toNat = n.log2 - 52 := by omega
    rw [e1, e2, Nat.shiftLeft_zero, cut_even _ _ _ (by omega)]
end Go.Proofs.Ytlnoejmckpimnaa
