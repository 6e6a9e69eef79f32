/- What comes of a number and one, or nought: plain. -/
import Derived.Test.YtlnoejmckpimnaaNumL
namespace Go.Proofs.Ytlnoejmckpimnaa
open Go.RowKit Ieee

theorem word_is {x : Nat} (hx : x < 18446744073709551616) : double.word (signOf x) (rungOf x) = x := by
  have hs : double.signWeight = 9223372036854775808 := by decide
  unfold Format.word
  rw [hs]
  exact (word_back hx).symm
theorem word_flip {x : Nat} (hx : x < 18446744073709551616) : double.word (!signOf x) (rungOf x) = flipN x := by
  rw [← sign_flip x hx, ← rung_flip x]
  exact word_is (flip_lt hx)
theorem write_inf (s : Bool) : double.write (.infinity s) = double.word s infR := by cases s <;> decide
theorem read_one : double.read 4607182418800017408 = .number false 4503599627370496 (-52) := by decide +kernel
theorem read_minus : double.read 13830554455654793216 = .number true 4503599627370496 (-52) := by decide +kernel
theorem read_nought : double.read 0 = .number false 0 (-1074) := by decide +kernel

theorem some_word {x : Nat} (hn : nanB x = false) : opN (some x) = x := clean_id hn
theorem nan_flip (x : Nat) : nanB (flipN x) = nanB x := by unfold nanB; rw [rung_flip]

/-- What a finite number's exact multiple writes. -/
theorem write_exact (s : Bool) {r m k : Nat} (hr : r < infR) (h1 : m < 4503599627370496 → k = 0 ∧ m = r) (h2 : 4503599627370496 ≤ m → m < 9007199254740992 ∧ k * 4503599627370496 + m = r) (j : Nat) (p : Int) (hpl : p = -1074 + (k : Int) - (j : Int)) : double.write (.number s (m * 2 ^ j) p) = double.word s r :=
  nearest_exact s hr h1 h2 j p hpl

theorem mul_unit {x : Nat} (hx : x < 18446744073709551616) (hn : nanB x = false) (t : Bool) (u : Nat) (hu : double.read u = .number t 4503599627370496 (-52)) : double.mul x u = some (double.word (signOf x ^^ t) (rungOf x)) := by
  unfold Format.mul
  rw [hu]
  have hle : ¬ infR < rungOf x := of_decide_eq_false (p := isNan x) hn
  by_cases hi : rungOf x = infR
  · rw [read_inf hi, hi]
    show some (double.write (.infinity _)) = _
    rw [write_inf]
  · obtain ⟨m, k, e, _, _, h4, h5⟩ := read_fin (x := x) (by omega)
    rw [e]
    show some (double.write (.number _ _ _)) = _
    rw [show (4503599627370496 : Nat) = 2 ^ 52 from by decide, write_exact _ (r := rungOf x) (m := m) (k := k) (by omega) h4 h5 52 _ (by omega)]

theorem mul_one' {x : Nat} (hx : x < 18446744073709551616) (hn : nanB x = false) : opN (double.mul x 4607182418800017408) = x := by
  rw [mul_unit hx hn false _ read_one, Bool.xor_false, word_is hx, some_word hn]
theorem mul_minus {x : Nat} (hx : x < 18446744073709551616) (hn : nanB x = false) : opN (double.mul x 13830554455654793216) = flipN x := by
  rw [mul_unit hx hn true _ read_minus, Bool.xor_true, word_flip hx, some_word (by rw [nan_flip]; exact hn)]

theorem div_one' {x : Nat} (hx : x < 18446744073709551616) (hn : nanB x = false) : opN (double.div x 4607182418800017408) = x := by
  have key : double.div x 4607182418800017408 = some (double.word (signOf x) (rungOf x)) := by
    unfold Format.div
    rw [read_one]
    have hle : ¬ infR < rungOf x := of_decide_eq_false (p := isNan x) hn
    by_cases hi : rungOf x = infR
    · rw [read_inf hi, hi]
      show some (double.write (.infinity (signOf x ^^ false))) = _
      rw [write_inf, Bool.xor_false]
    · obtain ⟨m, k, e, _, _, h4, h5⟩ := read_fin (x := x) (by omega)
      rw [e]
      have hm : m < 9007199254740992 := by
        by_cases h : m < 4503599627370496
        · omega
        · exact (h5 (by omega)).1
      have hl : m.log2 ≤ 52 := by
        by_cases h0 : m = 0
        · subst h0; decide
        · have : m.log2 < 53 := (Nat.log2_lt h0).2 hm
          omega
      have hd : double.fractionBits + 2 = 54 := by decide
      have hlog : Nat.log2 4503599627370496 = 52 := by decide
      simp only [Datum.quotient, hd, hlog, Bool.xor_false]
      rw [if_neg (by decide)]
      obtain ⟨c, hc⟩ : ∃ c, 54 + 52 - m.log2 = c + 52 ∧ 2 ≤ c := ⟨54 - m.log2, by omega, by omega⟩
      rw [hc.1]
      have e1 : m <<< (c + 52) = m * 2 ^ c * 4503599627370496 := by
        rw [Nat.shiftLeft_eq, Nat.pow_add, Nat.mul_assoc]
      have e2 : m <<< (c + 52) / 4503599627370496 = m * 2 ^ c := by rw [e1]; exact Nat.mul_div_cancel _ (by decide)
      have e3 : m <<< (c + 52) % 4503599627370496 = 0 := by rw [e1]; exact Nat.mul_mod_left _ _
      rw [e2, e3]
      have e4 : 2 * (m * 2 ^ c) + ((0 : Nat) != 0).toNat = m * 2 ^ (c + 1) := by
        rw [Nat.pow_succ]
        show 2 * (m * 2 ^ c) + 0 = _
        rw [Nat.add_zero, Nat.mul_comm 2, Nat.mul_assoc]
      rw [e4]
      show some (double.write (.number _ _ _)) = _
      rw [write_exact _ (r := rungOf x) (m := m) (k := k) (by omega) h4 h5 (c + 1) _ (by omega)]
  rw [key, word_is hx, some_word hn]

theorem sub_nought {x : Nat} (hx : x < 18446744073709551616) (hn : nanB x = false) : opN (double.sub x 0) = x := by
  have key : double.sub x 0 = some (double.word (signOf x) (rungOf x)) := by
    unfold Format.sub
    rw [read_nought]
    have hle : ¬ infR < rungOf x := of_decide_eq_false (p := isNan x) hn
    by_cases hi : rungOf x = infR
    · rw [read_inf hi, hi]
      show some (double.write (.infinity (signOf x))) = _
      rw [write_inf]
    · obtain ⟨m, k, e, _, _, h4, h5⟩ := read_fin (x := x) (by omega)
      rw [e]
      have hmin : min (-1074 + (k : Int)) (-1074) = -1074 := by omega
      simp only [Datum.opposite, Datum.sum, hmin, Bool.not_false, Bool.and_true]
      have e1 : (-1074 + (k : Int) - -1074).toNat = k := by omega
      have e2 : ((-1074 : Int) - -1074).toNat = 0 := by omega
      have e3 : signed true 0 0 = 0 := by decide
      rw [e1, e2, e3, Int.add_zero]
      have hp : 0 < 2 ^ k := Nat.two_pow_pos k
      have e4 : (signed (signOf x) m k).natAbs = m * 2 ^ k := by
        unfold signed
        rw [Nat.shiftLeft_eq]
        split <;> omega
      have e5 : (if signed (signOf x) m k = 0 then signOf x else decide (signed (signOf x) m k < 0)) = signOf x := by
        split
        · rfl
        · rename_i h
          unfold signed at h ⊢
          cases signOf x
          · simp only [Bool.false_eq_true, if_false] at h ⊢
            exact decide_eq_false (by omega)
          · simp only [if_true] at h ⊢
            exact decide_eq_true (by omega)
      rw [e4, e5]
      show some (double.write (.number _ _ _)) = _
      rw [write_exact _ (r := rungOf x) (m := m) (k := k) (by omega) h4 h5 k _ (by omega)]
  rw [key, word_is hx, some_word hn]

theorem mul_none {x : Nat} (hn : nanB x = true) (u : Nat) : opN (double.mul x u) = noneW := by
  obtain ⟨s, f, e⟩ := read_nan (show isNan x from of_decide_eq_true hn)
  unfold Format.mul
  rw [e]
  rfl
end Go.Proofs.Ytlnoejmckpimnaa
