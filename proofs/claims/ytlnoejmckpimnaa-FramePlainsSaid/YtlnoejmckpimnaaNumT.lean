/- The reference of num: a word as a whole number. -/
import Derived.Test.YtlnoejmckpimnaaNumR
namespace Go.Proofs.Ytlnoejmckpimnaa
open Go.RowKit Ieee

theorem pow_and (x : Nat) (h : x < 18446744073709551616) : Go.bits .and .u64 ((x : Int) / 4503599627370496) 2047 = ((rungOf x / 4503599627370496 : Nat) : Int) := by
  rw [show ((x : Int) / 4503599627370496) = ((x / 4503599627370496 : Nat) : Int) from by omega, show (2047 : Int) = ((2047 : Nat) : Int) from rfl, u64_and_nat _ _ (by omega) (by decide)]
  unfold rungOf
  rw [show (2047 : Nat) = 2 ^ 11 - 1 from by decide, Nat.and_two_pow_sub_one_eq_mod]
  congr 1
  omega
theorem frac_and (x : Nat) (h : x < 18446744073709551616) : Go.bits .and .u64 (x : Int) 4503599627370495 = ((rungOf x % 4503599627370496 : Nat) : Int) := by
  rw [show (4503599627370495 : Int) = ((4503599627370495 : Nat) : Int) from rfl, u64_and_nat _ _ h (by decide)]
  unfold rungOf
  rw [show (4503599627370495 : Nat) = 2 ^ 52 - 1 from by decide, Nat.and_two_pow_sub_one_eq_mod]
  congr 1
  omega
theorem whole_or (f : Nat) (h : f < 4503599627370496) : Go.bits .or .u64 (f : Int) 4503599627370496 = ((4503599627370496 + f : Nat) : Int) := by
  rw [show (4503599627370496 : Int) = ((4503599627370496 : Nat) : Int) from rfl, u64_or_nat _ _ (by omega) (by decide)]
  congr 1
  have e := Nat.two_pow_add_eq_or_of_lt (i := 52) (b := f) (by omega) 1
  rw [show (2 ^ 52 * 1 : Nat) = 4503599627370496 from by decide] at e
  rw [Nat.or_comm]
  exact e.symm

theorem toint_low {x : Nat} (hn : nanB x = false) (h : rungOf x / 4503599627370496 < 1086) : toIntN x = (truncI x % 18446744073709551616).toNat := by
  have hk : -4890909195324358656 < keyOf x ∧ keyOf x < 4890909195324358656 := by
    unfold keyOf
    split <;> omega
  unfold toIntN
  rw [hn, if_neg (by decide), if_neg (by omega), if_neg (by omega)]
theorem toint_high {x : Nat} (hn : nanB x = false) (h : 1086 ≤ rungOf x / 4503599627370496) : toIntN x = if signOf x then 9223372036854775808 else 9223372036854775807 := by
  unfold toIntN
  rw [hn, if_neg (by decide)]
  cases hs : signOf x
  · have hk : keyOf x = rungOf x := by unfold keyOf; rw [hs]; rfl
    rw [if_pos (by omega)]; rfl
  · have hk : keyOf x = -(rungOf x : Int) := by unfold keyOf; rw [hs]; rfl
    rw [if_neg (by omega)]
    by_cases e : rungOf x = 4890909195324358656
    · rw [if_neg (by omega)]
      unfold truncI
      rw [hs, trunc_far e]; rfl
    · rw [if_pos (by omega)]; rfl
theorem sign_div (x : Nat) (hx : x < 18446744073709551616) : (((x : Int) / 9223372036854775808) == 1) = signOf x := by
  unfold signOf
  by_cases h : x / 9223372036854775808 = 1
  · rw [h]; rw [show ((x : Int) / 9223372036854775808) = 1 by omega]; rfl
  · rw [show x / 9223372036854775808 = 0 by omega, show ((x : Int) / 9223372036854775808) = 0 by omega]; rfl

theorem rtoint_nil (x : Nat) (hx : x < 18446744073709551616) (h : nanB x = true ∨ (nanB x = false ∧ rungOf x = 0)) (w : World) : Calls Try.prog 41 #[.int .u64 (x : Int)] w fun e w' => e = .returned (.int .u64 (toIntN x : Nat)) ∧ w' = w := by
  have c1 := kind3 x
  have z1 := kind1 x
  have Hx := Lib.hid hx
  rcases h with h | ⟨h, h0⟩
  · have K : Hid (toIntN x = 0) := by unfold Hid toIntN; rw [h]; rfl
    rw [h] at c1
    clear h hx z1
    go_enter Try.func41, Try.ntmps41
    go_wp2_with fail
    refine (rkind_calls x Hx.out _).mono ?_
    rintro e w1 ⟨rfl, rfl⟩
    go_wp2_with fail
    go_ret
    exact ⟨ret_int (by rw [K.out]; rfl), rfl⟩
  · have K : Hid (toIntN x = 0) := by
      have hk : keyOf x = 0 := by unfold keyOf; rw [h0]; split <;> rfl
      have ht : truncI x = 0 := by unfold truncI truncN; rw [h0]; split <;> rfl
      unfold Hid toIntN
      rw [h, hk, ht]; rfl
    rw [h] at c1
    rw [decide_eq_true h0] at z1
    clear h hx h0
    go_enter Try.func41, Try.ntmps41
    go_wp2_with fail
    refine (rkind_calls x Hx.out _).mono ?_
    rintro e w1 ⟨rfl, rfl⟩
    go_wp2_with fail
    refine (rkind_calls x Hx.out _).mono ?_
    rintro e w1 ⟨rfl, rfl⟩
    go_wp2_with fail
    go_ret
    exact ⟨ret_int (by rw [K.out]; rfl), rfl⟩

theorem ret_pos {t : Nat} (ht : t < 9223372036854775808) : (((((t : Nat) : Int) % 18446744073709551616).toNat : Nat) : Int) = t := by omega
theorem ret_neg (t : Nat) : ((((-(t : Int)) % 18446744073709551616).toNat : Nat) : Int) = (-(t : Int)) % 18446744073709551616 := by omega
theorem shl_small {f q : Nat} (hf : f < 4503599627370496) (hq : q < 1086) : (4503599627370496 + f) * 2 ^ (q - 1075) < 9223372036854775808 := by
  have h1 : 2 ^ (q - 1075) ≤ 2 ^ 10 := Nat.pow_le_pow_right (by decide) (by omega)
  have h2 : (4503599627370496 + f) * 2 ^ (q - 1075) ≤ (4503599627370496 + f) * 2 ^ 10 := Nat.mul_le_mul_left _ h1
  omega
theorem shr_small {f : Nat} (hf : f < 4503599627370496) (d : Nat) : (4503599627370496 + f) / 2 ^ d < 9223372036854775808 := by
  have := Nat.div_le_self (4503599627370496 + f) (2 ^ d)
  omega

theorem cast_shl' (b f c : Nat) : (((b : Int) + (f : Int)) * 2 ^ c) = (((b + f) * 2 ^ c : Nat) : Int) := by push_cast; rfl
theorem cast_shr' (b f c : Nat) : (((b : Int) + (f : Int)) / 2 ^ c) = (((b + f) / 2 ^ c : Nat) : Int) := by push_cast; rfl
theorem cast_shl (f c : Nat) : ((4503599627370496 + (f : Int)) * 2 ^ c) = (((4503599627370496 + f) * 2 ^ c : Nat) : Int) := cast_shl' 4503599627370496 f c
theorem cast_shr (f c : Nat) : ((4503599627370496 + (f : Int)) / 2 ^ c) = (((4503599627370496 + f) / 2 ^ c : Nat) : Int) := cast_shr' 4503599627370496 f c

theorem toint_cases (x : Nat) (hn : nanB x = false) {q f : Nat} (hq : rungOf x / 4503599627370496 = q) (hf : rungOf x % 4503599627370496 = f) :
    (q < 1023 → (toIntN x : Int) = 0) ∧ (1086 ≤ q → signOf x = true → (toIntN x : Int) = 9223372036854775808) ∧ (1086 ≤ q → signOf x = false → (toIntN x : Int) = 9223372036854775807) ∧
    (1075 < q → q < 1086 → signOf x = false → (toIntN x : Int) = (((4503599627370496 + f) * 2 ^ (q - 1075) : Nat) : Int)) ∧
    (1075 < q → q < 1086 → signOf x = true → (toIntN x : Int) = (-(((4503599627370496 + f) * 2 ^ (q - 1075) : Nat) : Int)) % 18446744073709551616) ∧
    (1023 ≤ q → q ≤ 1075 → signOf x = false → (toIntN x : Int) = (((4503599627370496 + f) / 2 ^ (1075 - q) : Nat) : Int)) ∧
    (1023 ≤ q → q ≤ 1075 → signOf x = true → (toIntN x : Int) = (-(((4503599627370496 + f) / 2 ^ (1075 - q) : Nat) : Int)) % 18446744073709551616) := by
  have T : truncN x = (if q < 1023 then 0 else if 1075 < q then (4503599627370496 + f) * 2 ^ (q - 1075) else (4503599627370496 + f) / 2 ^ (1075 - q)) := by unfold truncN; rw [hq, hf]
  have hfl : f < 4503599627370496 := by omega
  refine ⟨fun h => ?_, fun h hs => ?_, fun h hs => ?_, fun h h' hs => ?_, fun h h' hs => ?_, fun h h' hs => ?_, fun h h' hs => ?_⟩
  · rw [if_pos h] at T
    have I : truncI x = 0 := by unfold truncI; rw [T]; split <;> rfl
    rw [toint_low hn (by omega), I]; rfl
  · rw [toint_high hn (by omega), hs]; rfl
  · rw [toint_high hn (by omega), hs]; rfl
  · rw [if_neg (by omega), if_pos h] at T
    have I : truncI x = (truncN x : Int) := by unfold truncI; rw [hs]; rfl
    rw [toint_low hn (by omega), I, T, ret_pos (shl_small hfl h')]
  · rw [if_neg (by omega), if_pos h] at T
    have I : truncI x = -(truncN x : Int) := by unfold truncI; rw [hs]; rfl
    rw [toint_low hn (by omega), I, T, ret_neg]
  · rw [if_neg (by omega), if_neg (by omega)] at T
    have I : truncI x = (truncN x : Int) := by unfold truncI; rw [hs]; rfl
    rw [toint_low hn (by omega), I, T, ret_pos (shr_small hfl _)]
  · rw [if_neg (by omega), if_neg (by omega)] at T
    have I : truncI x = -(truncN x : Int) := by unfold truncI; rw [hs]; rfl
    rw [toint_low hn (by omega), I, T, ret_neg]

theorem rtoint_some (x : Nat) (hx : x < 18446744073709551616) (h : nanB x = false) (h0 : rungOf x ≠ 0) (w : World) : Calls Try.prog 41 #[.int .u64 (x : Int)] w fun e w' => e = .returned (.int .u64 (toIntN x : Nat)) ∧ w' = w := by
  have c1 := kind3 x
  have z1 := kind1 x
  rw [h] at c1
  rw [decide_eq_false h0] at z1
  have p1 := pow_and x hx
  have p2 := frac_and x hx
  have p3 := whole_or (rungOf x % 4503599627370496) (Nat.mod_lt _ (by decide))
  have s1 := sign_div x hx
  have hr : rungOf x < 9223372036854775808 := Nat.mod_lt _ (by decide)
  have Hx := Lib.hid hx
  obtain ⟨q, hq⟩ : ∃ q, rungOf x / 4503599627370496 = q := ⟨_, rfl⟩
  obtain ⟨f, hf⟩ : ∃ f, rungOf x % 4503599627370496 = f := ⟨_, rfl⟩
  have TC := Lib.hid (toint_cases x h hq hf)
  rw [hq] at p1
  rw [hf] at p2 p3
  have hq2 : q < 2048 := by omega
  have hf2 : f < 4503599627370496 := by omega
  clear h h0 hr hq hf
  have hc : q < 1023 ∨ 1086 ≤ q ∨ (1075 < q ∧ q < 1086) ∨ (1023 ≤ q ∧ q ≤ 1075) := by omega
  cases hs : signOf x
  all_goals
    rw [hs] at s1
    have Hs := Lib.hid hs
    clear hs
    rcases hc with hc | hc | hc | hc
    all_goals
      go_enter Try.func41, Try.ntmps41
      go_wp2_with fail
      refine (rkind_calls x Hx.out _).mono ?_
      rintro e w1 ⟨rfl, rfl⟩
      go_wp2_with fail
      refine (rkind_calls x Hx.out _).mono ?_
      rintro e w1 ⟨rfl, rfl⟩
      go_wp2_with fail
      go_ret
      refine ⟨ret_int ?_, rfl⟩
      obtain ⟨t1, t2, t3, t4, t5, t6, t7⟩ := TC.out
      have hs' := Hs.out
  · exact (t1 hc).symm
  · exact (t3 hc hs').symm
  · rw [t4 hc.1 hc.2 hs', show q - 1023 - 52 = q - 1075 by omega, cast_shl]
    have := shl_small (q := q) hf2 hc.2
    generalize (4503599627370496 + f) * 2 ^ (q - 1075) = t at *
    show (t : Int) % 18446744073709551616 = _
    omega
  · rw [t6 hc.1 hc.2 hs', show 52 - (q - 1023) = 1075 - q by omega, cast_shr]
  · exact (t1 hc).symm
  · exact (t2 hc hs').symm
  · rw [t5 hc.1 hc.2 hs', show q - 1023 - 52 = q - 1075 by omega, cast_shl]
    have := shl_small (q := q) hf2 hc.2
    generalize (4503599627370496 + f) * 2 ^ (q - 1075) = t at *
    show (-((t : Int) % 18446744073709551616)) % 18446744073709551616 = _
    omega
  · rw [t7 hc.1 hc.2 hs', show 52 - (q - 1023) = 1075 - q by omega, cast_shr]
    rfl

theorem rtoint_calls (x : Nat) (hx : x < 18446744073709551616) (w : World) : Calls Try.prog 41 #[.int .u64 (x : Int)] w fun e w' => e = .returned (.int .u64 (toIntN x : Nat)) ∧ w' = w := by
  cases h : nanB x
  · by_cases h0 : rungOf x = 0
    · exact rtoint_nil x hx (.inr ⟨h, h0⟩) w
    · exact rtoint_some x hx h h0 w
  · exact rtoint_nil x hx (.inl h) w
end Go.Proofs.Ytlnoejmckpimnaa
