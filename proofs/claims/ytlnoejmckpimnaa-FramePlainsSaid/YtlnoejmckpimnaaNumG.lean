/- Package num: a word as a whole number. -/
import Derived.Test.YtlnoejmckpimnaaNumF
namespace Go.Proofs.Ytlnoejmckpimnaa
open Go.RowKit Ieee

def toIntN (x : Nat) : Nat := if nanB x then 0 else if 4890909195324358656 ≤ keyOf x then 9223372036854775807 else if keyOf x < -4890909195324358656 then 9223372036854775808 else (truncI x % 18446744073709551616).toNat

theorem trunc_far {x : Nat} (h : rungOf x = 4890909195324358656) : truncN x = 9223372036854775808 := by
  unfold truncN; rw [h]; decide

theorem trunc_in {x : Nat} (h1 : ¬ 4890909195324358656 ≤ keyOf x) (h2 : ¬ keyOf x < -4890909195324358656) : -9223372036854775808 ≤ truncI x ∧ truncI x < 9223372036854775808 ∧ rungOf x < infR := by
  unfold keyOf at h1 h2
  unfold truncI infR
  cases hs : signOf x with
  | true =>
    rw [hs] at h1 h2
    simp only [if_true] at h1 h2 ⊢
    by_cases e : rungOf x = 4890909195324358656
    · rw [trunc_far e]; omega
    · have := trunc_small (x := x) (by omega); omega
  | false =>
    rw [hs] at h1 h2
    simp only [Bool.false_eq_true, if_false] at h1 h2 ⊢
    have := trunc_small (x := x) (by omega); omega

theorem conv_says {x : Nat} (h1 : ¬ 4890909195324358656 ≤ keyOf x) (h2 : ¬ keyOf x < -4890909195324358656) : floatToIntVal .f64 x .i64 = some (truncI x) := by
  obtain ⟨a, b, c⟩ := trunc_in h1 h2
  have e1 : IntKind.i64.min = -9223372036854775808 := by decide
  have e2 : IntKind.i64.max = 9223372036854775807 := by decide
  have hd : (FloatKind.f64.decode x).toInt .zero = some (truncI x) := trunc_read c
  unfold floatToIntVal
  rw [hd]
  exact if_pos ⟨by omega, by omega⟩

theorem far_says {x : Nat} (hn : nanB x = false) : (FloatKind.f64.format.order x 4890909195324358656 == some .gt || FloatKind.f64.format.order x 4890909195324358656 == some .eq) = decide (4890909195324358656 ≤ keyOf x) := by
  show (double.order x 4890909195324358656 == some .gt || double.order x 4890909195324358656 == some .eq) = _
  rw [order_of hn (by decide), show keyOf 4890909195324358656 = 4890909195324358656 from by decide]
  by_cases h : keyOf x < 4890909195324358656
  · rw [compare_lt h, decide_eq_false (by omega)]; rfl
  · rw [decide_eq_true (by omega)]
    by_cases e : keyOf x = 4890909195324358656
    · rw [compare_eq e]; rfl
    · rw [compare_gt (by omega)]; rfl

theorem near_says {x : Nat} (hn : nanB x = false) : (FloatKind.f64.format.order x 14114281232179134464 == some .lt) = decide (keyOf x < -4890909195324358656) := by
  show (double.order x 14114281232179134464 == some .lt) = _
  rw [order_of hn (by decide), show keyOf 14114281232179134464 = -4890909195324358656 from by decide, cmp_lt]

theorem toint_calls (x : Nat) (w : World) : Calls Try.prog 35 #[.int .u64 (x : Int)] w fun e w' => e = .returned (.int .u64 (toIntN x : Nat)) ∧ w' = w := by
  cases hn : nanB x with
  | true =>
    have K : Hid (toIntN x = 0) := by unfold Hid toIntN; rw [hn]; rfl
    have Hn := Lib.hid hn
    clear hn
    go_enter Try.func35, Try.ntmps35
    go_wp2_with (first | (go_at_call 47; refine (of_calls _ _).mono ?_; rintro e w' ⟨rfl, rfl⟩))
    refine (isnone_calls _ _).mono ?_
    rintro e w1 ⟨rfl, rfl⟩
    rw [Hn.out]
    go_wp2_with fail
    go_ret
    exact ⟨ret_int (by rw [K.out]; rfl), rfl⟩
  | false =>
    have f1 := far_says hn
    have f2 := near_says hn
    by_cases h1 : 4890909195324358656 ≤ keyOf x
    · have K : Hid (toIntN x = 9223372036854775807) := by unfold Hid toIntN; rw [hn, if_neg (by decide), if_pos h1]
      rw [decide_eq_true h1] at f1
      have Hn := Lib.hid hn
      clear hn h1 f2
      go_enter Try.func35, Try.ntmps35
      go_wp2_with (first | (go_at_call 47; refine (of_calls _ _).mono ?_; rintro e w' ⟨rfl, rfl⟩))
      refine (isnone_calls _ _).mono ?_
      rintro e w1 ⟨rfl, rfl⟩
      rw [Hn.out]
      go_wp2_with fail
      go_ret
      exact ⟨ret_int (by rw [K.out]; rfl), rfl⟩
    · rw [decide_eq_false h1] at f1
      by_cases h2 : keyOf x < -4890909195324358656
      · have K : Hid (toIntN x = 9223372036854775808) := by unfold Hid toIntN; rw [hn, if_neg (by decide), if_neg h1, if_pos h2]
        rw [decide_eq_true h2] at f2
        have Hn := Lib.hid hn
        clear hn h1 h2
        go_enter Try.func35, Try.ntmps35
        go_wp2_with (first | (go_at_call 47; refine (of_calls _ _).mono ?_; rintro e w' ⟨rfl, rfl⟩))
        refine (isnone_calls _ _).mono ?_
        rintro e w1 ⟨rfl, rfl⟩
        rw [Hn.out]
        go_wp2_with fail
        go_ret
        exact ⟨ret_int (by rw [K.out]; rfl), rfl⟩
      · have K : Hid (toIntN x = (truncI x % 18446744073709551616).toNat) := by unfold Hid toIntN; rw [hn, if_neg (by decide), if_neg h1, if_neg h2]
        rw [decide_eq_false h2] at f2
        have hc : ∀ w, (convert 82 2 (.float .f64 x)).run Try.prog w = .ok (.int .i64 (truncI x)) w := fun w => run_convert_float_int w 82 2 .f64 .i64 x _ (by rw [Try.underlying82]; rfl) Try.underlying2 (conv_says h1 h2)
        obtain ⟨b1, b2, _⟩ := trunc_in h1 h2
        have Hn := Lib.hid hn
        have B1 := Lib.hid b1
        have B2 := Lib.hid b2
        clear hn h1 h2 b1 b2
        go_enter Try.func35, Try.ntmps35
        go_wp2_with (first | (go_at_call 47; refine (of_calls _ _).mono ?_; rintro e w' ⟨rfl, rfl⟩))
        refine (isnone_calls _ _).mono ?_
        rintro e w1 ⟨rfl, rfl⟩
        rw [Hn.out]
        go_wp2_with fail
        go_ret
        exact ⟨ret_int (by rw [K.out]; have h := B1.out; have h' := B2.out; show truncI x % 18446744073709551616 = _; omega), rfl⟩
end Go.Proofs.Ytlnoejmckpimnaa
