/- The edges: none, what has no end, small whole numbers: plain. -/
import Derived.Test.YtlnoejmckpimnaaNumQ
namespace Go.Proofs.Ytlnoejmckpimnaa
open Go.RowKit Ieee

theorem word_parts (s : Bool) {r : Nat} (hr : r < 9223372036854775808) : signOf (double.word s r) = s ∧ rungOf (double.word s r) = r := by
  have hs : double.signWeight = 9223372036854775808 := by decide
  unfold Format.word signOf rungOf
  rw [hs]
  cases s
  · simp only [Bool.false_eq_true, if_false]
    rw [show r / 9223372036854775808 = 0 by omega]
    exact ⟨rfl, by omega⟩
  · simp only [if_true]
    rw [show (9223372036854775808 + r) / 9223372036854775808 = 1 by omega]
    exact ⟨rfl, by omega⟩

theorem digits_small {n : Nat} (h0 : n ≠ 0) (hl : n.log2 ≤ 52) : digitsN n = n * 2 ^ (52 - n.log2) ∧ 4503599627370496 ≤ n * 2 ^ (52 - n.log2) ∧ n * 2 ^ (52 - n.log2) < 9007199254740992 := by
  refine ⟨by unfold digitsN; rw [if_pos hl], ?_, ?_⟩
  · have h1 : 2 ^ n.log2 ≤ n := (Nat.le_log2 h0).1 (Nat.le_refl _)
    have h2 : 2 ^ n.log2 * 2 ^ (52 - n.log2) ≤ n * 2 ^ (52 - n.log2) := Nat.mul_le_mul_right _ h1
    rw [← Nat.pow_add, show n.log2 + (52 - n.log2) = 52 by omega] at h2
    exact h2
  · have h1 : n < 2 ^ (n.log2 + 1) := Nat.lt_log2_self
    have h2 : n * 2 ^ (52 - n.log2) < 2 ^ (n.log2 + 1) * 2 ^ (52 - n.log2) := Nat.mul_lt_mul_of_pos_right h1 (Nat.two_pow_pos _)
    rw [← Nat.pow_add, show n.log2 + 1 + (52 - n.log2) = 53 by omega] at h2
    exact h2

theorem back_small (n : Int) (hn : n.natAbs < 9007199254740992) : toIntN (floatW n) = (n % 18446744073709551616).toNat := by
  by_cases h0 : n = 0
  · subst h0; decide +kernel
  · have h0' : n.natAbs ≠ 0 := by omega
    have hl : n.natAbs.log2 ≤ 52 := by have := (Nat.log2_lt h0' (k := 53)).2 hn; omega
    have hnn : nanB (floatW n) = false := floatW_num n
    obtain ⟨e1, g1, g2⟩ := digits_small h0' hl
    have hw : floatW n = double.word (n < 0) ((n.natAbs.log2 + 1022) * 4503599627370496 + digitsN n.natAbs) := nearest_whole _ _ h0' (by omega)
    rw [e1] at hw
    generalize hM : n.natAbs * 2 ^ (52 - n.natAbs.log2) = M at *
    generalize hL : n.natAbs.log2 = L at *
    obtain ⟨p1, p2⟩ := word_parts (decide (n < 0)) (r := (L + 1022) * 4503599627370496 + M) (by omega)
    rw [← hw] at p1 p2
    have q1 : rungOf (floatW n) / 4503599627370496 = L + 1023 := by rw [p2]; omega
    have q2 : rungOf (floatW n) % 4503599627370496 = M - 4503599627370496 := by rw [p2]; omega
    have ht : truncN (floatW n) = n.natAbs := by
      unfold truncN
      rw [q1, q2, if_neg (by omega), if_neg (by omega), show 4503599627370496 + (M - 4503599627370496) = M by omega, show 1075 - (L + 1023) = 52 - L by omega, ← hM]
      exact Nat.mul_div_cancel _ (Nat.two_pow_pos _)
    have hk : -4890909195324358656 < keyOf (floatW n) ∧ keyOf (floatW n) < 4890909195324358656 := by
      unfold keyOf
      rw [p2]
      split <;> omega
    unfold toIntN
    rw [hnn, if_neg (by decide), if_neg (by omega), if_neg (by omega)]
    congr 2
    unfold truncI
    rw [p1, ht]
    by_cases hs : n < 0
    · rw [decide_eq_true hs, if_pos rfl]; omega
    · rw [decide_eq_false hs, if_neg (by decide)]; omega

theorem none_nan : nanB 9221120237041090560 = true := by decide
theorem add_none (x : Nat) : opN (double.add x 9221120237041090560) = 9221120237041090560 := by
  rw [add_comm']
  obtain ⟨s, f, e⟩ := read_nan (show isNan 9221120237041090560 from of_decide_eq_true none_nan)
  unfold Format.add
  rw [e]
  rfl
theorem low_none (x : Nat) : lowN x 9221120237041090560 = 9221120237041090560 := by
  unfold lowN
  rw [none_nan, Bool.or_true]
  rfl
theorem less_self (x : Nat) : lessB x x = false := by
  cases h : nanB x
  · rw [less_key h h]; exact decide_eq_false (by omega)
  · exact less_nan (.inl h)
theorem kind2 (x : Nat) : kindN x < 2 ↔ rungOf x < infR := by
  unfold kindN nanB infR
  by_cases h : 9218868437227405312 < rungOf x
  · rw [decide_eq_true h]; simp; omega
  · rw [decide_eq_false h]
    simp only [Bool.false_eq_true, if_false]
    split
    · omega
    · split <;> omega
theorem fin_num {x : Nat} (h : rungOf x < infR) : nanB x = false := decide_eq_false (by omega)
theorem near_key : keyOf 18442240474082181120 = -9218868437227405312 := by decide
theorem far_key : keyOf 9218868437227405312 = 9218868437227405312 := by decide
theorem near_less {x : Nat} (h : rungOf x < infR) : lessB 18442240474082181120 x = true := by
  rw [less_key (by decide) (fin_num h), near_key]
  unfold keyOf infR at *
  exact decide_eq_true (by split <;> omega)
theorem far_less {x : Nat} (h : rungOf x < infR) : lessB x 9218868437227405312 = true := by
  rw [less_key (fin_num h) (by decide), far_key]
  unfold keyOf infR at *
  exact decide_eq_true (by split <;> omega)
theorem read_far : double.read 9218868437227405312 = .infinity false := by decide +kernel
theorem add_far {x : Nat} (h : rungOf x < infR) : opN (double.add x 9218868437227405312) = 9218868437227405312 := by
  obtain ⟨m, k, e, _⟩ := read_fin h
  unfold Format.add
  rw [e, read_far]
  show opN (some (double.write (.infinity false))) = _
  rw [write_inf]
  decide +kernel
theorem high_far {x : Nat} (h : rungOf x < infR) : highN x 9218868437227405312 = 9218868437227405312 := by
  unfold highN maxN
  rw [fin_num h, show nanB 9218868437227405312 = false by decide]
  have hr : rankI 9218868437227405312 = 9218868437227405312 := by decide
  rw [hr]
  unfold rankI infR at *
  simp only [Bool.or_false, Bool.false_eq_true, if_false]
  rw [if_neg (by split <;> omega)]
theorem low_near {x : Nat} (h : rungOf x < infR) : lowN x 18442240474082181120 = 18442240474082181120 := by
  unfold lowN minN
  rw [fin_num h, show nanB 18442240474082181120 = false by decide]
  have hr : rankI 18442240474082181120 = -9218868437227405313 := by decide
  rw [hr]
  unfold rankI infR at *
  simp only [Bool.or_false, Bool.false_eq_true, if_false]
  rw [if_neg (by split <;> omega)]
theorem div_far (x : Nat) : opN (double.div x 9218868437227405312) ≠ 9218868437227405312 := by
  unfold Format.div
  rw [read_far]
  cases double.read x with
  | nan s f => show noneW ≠ _; decide
  | infinity s => show noneW ≠ _; decide
  | number s m i =>
    show opN (some (double.write (.number (s ^^ false) 0 0))) ≠ _
    cases s <;> decide +kernel
end Go.Proofs.Ytlnoejmckpimnaa
