/- Sums and products of words: in whatever order; with the other sign; with one. Plain. -/
import Derived.Test.YtlnoejmckpimnaaNumK
namespace Go.Proofs.Ytlnoejmckpimnaa
open Go.RowKit Ieee

theorem sum_comm (a b : Datum) : a.sum b = b.sum a := by
  cases a with
  | nan s f => cases b <;> rfl
  | infinity s =>
    cases b with
    | nan t f => rfl
    | number t n j => rfl
    | infinity t => cases s <;> cases t <;> rfl
  | number s m i =>
    cases b with
    | nan t f => rfl
    | infinity t => rfl
    | number t n j =>
      simp only [Datum.sum]
      rw [Int.min_comm j i, Int.add_comm (signed t n _), Bool.and_comm t s]
theorem product_comm (a b : Datum) : a.product b = b.product a := by
  cases a with
  | nan s f => cases b <;> rfl
  | infinity s =>
    cases b with
    | nan t f => rfl
    | number t n j => rfl
    | infinity t => simp only [Datum.product]; rw [Bool.xor_comm]
  | number s m i =>
    cases b with
    | nan t f => rfl
    | infinity t => rfl
    | number t n j =>
      simp only [Datum.product]
      rw [Bool.xor_comm, Nat.mul_comm, Int.add_comm]
theorem add_comm' (x y : Nat) : double.add x y = double.add y x := by unfold Format.add; rw [sum_comm]
theorem mul_comm' (x y : Nat) : double.mul x y = double.mul y x := by unfold Format.mul; rw [product_comm]
theorem low_comm {x y : Nat} (hx : x < 18446744073709551616) (hy : y < 18446744073709551616) : lowN x y = lowN y x := by
  unfold lowN minN
  rw [Bool.or_comm]
  split
  · rfl
  · by_cases e : x = y
    · subst e; rfl
    · have hne : rankI x ≠ rankI y := fun h => e (rank_inj hx hy h)
      split <;> split <;> first | rfl | omega
theorem high_comm {x y : Nat} (hx : x < 18446744073709551616) (hy : y < 18446744073709551616) : highN x y = highN y x := by
  unfold highN maxN
  rw [Bool.or_comm]
  split
  · rfl
  · by_cases e : x = y
    · subst e; rfl
    · have hne : rankI x ≠ rankI y := fun h => e (rank_inj hx hy h)
      split <;> split <;> first | rfl | omega

/-- The word with the other sign. -/
def flipN (x : Nat) : Nat := if x < 9223372036854775808 then x + 9223372036854775808 else x - 9223372036854775808
theorem flip_lt {x : Nat} (hx : x < 18446744073709551616) : flipN x < 18446744073709551616 := by unfold flipN; split <;> omega
theorem xor_flip (x : Nat) (hx : x < 18446744073709551616) : Go.bits .xor .u64 (x : Int) 9223372036854775808 = ((flipN x : Nat) : Int) := by
  rw [show (9223372036854775808 : Int) = ((9223372036854775808 : Nat) : Int) from rfl, u64_xor_nat x _ hx (by decide)]
  have d : (x ^^^ 9223372036854775808) / 9223372036854775808 = (x / 9223372036854775808) ^^^ 1 := by
    have h := @Nat.xor_div_two_pow x 9223372036854775808 63
    rw [show (2 : Nat) ^ 63 = 9223372036854775808 from by decide, show (9223372036854775808 / 9223372036854775808 : Nat) = 1 from by decide] at h
    exact h
  have m : (x ^^^ 9223372036854775808) % 9223372036854775808 = x % 9223372036854775808 := by
    have h := @Nat.xor_mod_two_pow x 9223372036854775808 63
    rw [show (2 : Nat) ^ 63 = 9223372036854775808 from by decide, show (9223372036854775808 % 9223372036854775808 : Nat) = 0 from by decide, Nat.xor_zero] at h
    exact h
  have hq : x / 9223372036854775808 = 0 ∨ x / 9223372036854775808 = 1 := by omega
  generalize x ^^^ 9223372036854775808 = v at d m ⊢
  unfold flipN
  rcases hq with hq | hq
  · rw [hq, show (0 ^^^ 1 : Nat) = 1 from rfl] at d
    rw [if_pos (by omega)]
    exact congrArg Nat.cast (show v = x + 9223372036854775808 by omega)
  · rw [hq, show (1 ^^^ 1 : Nat) = 0 from rfl] at d
    rw [if_neg (by omega)]
    exact congrArg Nat.cast (show v = x - 9223372036854775808 by omega)
theorem sign_flip (x : Nat) (hx : x < 18446744073709551616) : signOf (flipN x) = !signOf x := by
  unfold signOf flipN
  by_cases h : x < 9223372036854775808
  · rw [if_pos h, show (x + 9223372036854775808) / 9223372036854775808 = 1 by omega, show x / 9223372036854775808 = 0 by omega]; rfl
  · rw [if_neg h, show (x - 9223372036854775808) / 9223372036854775808 = 0 by omega, show x / 9223372036854775808 = 1 by omega]; rfl
theorem rung_flip (x : Nat) : rungOf (flipN x) = rungOf x := by
  unfold rungOf flipN
  split <;> omega
theorem read_flip (x : Nat) (hx : x < 18446744073709551616) : double.read (flipN x) = (double.read x).opposite := by
  rw [read_eq, read_eq, sign_flip x hx, rung_flip]
  by_cases h1 : rungOf x < 4503599627370496
  · rw [if_pos h1, if_pos h1]; rfl
  · rw [if_neg h1, if_neg h1]
    by_cases h2 : rungOf x < infR
    · rw [if_pos h2, if_pos h2]; rfl
    · rw [if_neg h2, if_neg h2]
      by_cases h3 : rungOf x = infR
      · rw [if_pos h3, if_pos h3]; rfl
      · rw [if_neg h3, if_neg h3]; rfl
theorem sub_flip (x y : Nat) (hy : y < 18446744073709551616) : double.sub x y = double.add x (flipN y) := by
  unfold Format.sub Format.add
  rw [read_flip y hy]
end Go.Proofs.Ytlnoejmckpimnaa
