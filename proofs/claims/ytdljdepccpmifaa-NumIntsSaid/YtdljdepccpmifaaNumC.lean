/- Package num and its reference: kinds, the lesser and the greater one, sums by the language's own. -/
import Derived.Test.YtdljdepccpmifaaNumB
namespace Go.Proofs.Ytdljdepccpmifaa
open Go.RowKit Ieee

theorem rung_of_small {r : Nat} (h : r < 9223372036854775808) : rungOf r = r ∧ signOf r = false := by
  unfold rungOf signOf
  refine ⟨by omega, ?_⟩
  rw [show r / 9223372036854775808 = 0 by omega]
  decide

/-- What an order says of two words that are numbers. -/
theorem order_of {x y : Nat} (hx : nanB x = false) (hy : nanB y = false) : double.order x y = some (compare (keyOf x) (keyOf y)) :=
  order_key (of_decide_eq_false (p := isNan x) hx) (of_decide_eq_false (p := isNan y) hy)
theorem order_none {x y : Nat} (h : nanB x = true ∨ nanB y = true) : double.order x y = none :=
  order_nan (h.imp (fun h => of_decide_eq_true (p := isNan x) h) (fun h => of_decide_eq_true (p := isNan y) h))

theorem inf_says (x : Nat) (hn : nanB x = false) : (double.order (rungOf x) 9218868437227405311 == some .gt) = decide (rungOf x = infR) := by
  have hr := rung_of_small (rung_lt x)
  have h1 : nanB (rungOf x) = false := by unfold nanB at hn ⊢; rw [hr.1]; exact hn
  have h2 : nanB 9218868437227405311 = false := by decide
  rw [order_of h1 h2]
  have k1 : keyOf (rungOf x) = rungOf x := by unfold keyOf; rw [hr.2, hr.1]; rfl
  have k2 : keyOf 9218868437227405311 = 9218868437227405311 := by decide
  rw [k1, k2]
  have hle : rungOf x ≤ infR := by unfold nanB at hn; have := of_decide_eq_false hn; omega
  unfold infR at *
  by_cases h : rungOf x = 9218868437227405312
  · rw [compare_gt (by omega), decide_eq_true h]; rfl
  · rw [decide_eq_false h]
    by_cases e : rungOf x = 9218868437227405311
    · rw [compare_eq (by omega)]; rfl
    · rw [compare_lt (by omega)]; rfl

theorem zero_says (x : Nat) (hn : nanB x = false) : (double.order x 0 == some .eq) = decide (rungOf x = 0) := by
  have h2 : nanB 0 = false := by decide
  rw [order_of hn h2]
  have k2 : keyOf 0 = 0 := by decide
  rw [k2]
  unfold keyOf
  by_cases h : rungOf x = 0
  · rw [h, decide_eq_true rfl, compare_eq (by split <;> rfl)]; rfl
  · rw [decide_eq_false h]
    cases signOf x
    · simp only [Bool.false_eq_true, if_false]
      rw [compare_gt (by omega)]; rfl
    · simp only [if_true]
      rw [compare_lt (by omega)]; rfl

theorem isinf_calls (x : Nat) (hx : x < 18446744073709551616) (hn : nanB x = false) (w : World) : Calls Try.prog 38 #[.float .f64 x, .int .i64 0] w fun e w' => e = .returned (.bool (decide (rungOf x = infR))) ∧ w' = w := by
  have H := Lib.hid (inf_says x hn)
  clear hn
  go_enter Try.func38, Try.ntmps38
  go_wp2_with fail
  refine (abs_calls x hx _).mono ?_
  rintro e w1 ⟨rfl, rfl⟩
  go_wp2_with fail
  go_ret
  exact ⟨ret_bool H.out, rfl⟩

theorem kind_calls (x : Nat) (hx : x < 18446744073709551616) (w : World) : Calls Try.prog 26 #[.int .u64 (x : Int)] w fun e w' => e = .returned (.int .i64 (kindN x)) ∧ w' = w := by
  cases hn : nanB x with
  | true =>
    have hk : Hid (kindN x = 3) := by unfold Hid kindN; rw [hn]; rfl
    have Hn := Lib.hid hn
    clear hn
    go_enter Try.func26, Try.ntmps26
    go_wp2_with (first | (go_at_call 28; refine (of_calls _ _).mono ?_; rintro e w' ⟨rfl, rfl⟩))
    refine (isnone_calls _ _).mono ?_
    rintro e w1 ⟨rfl, rfl⟩
    rw [Hn.out]
    go_wp2_with fail
    go_ret
    exact ⟨ret_int hk.out.symm, rfl⟩
  | false =>
    have Hn := Lib.hid hn
    have Hz := Lib.hid (zero_says x hn)
    clear hn
    have hk : Hid (kindN x = if rungOf x = infR then 2 else if rungOf x = 0 then 1 else 0) := by unfold Hid kindN; rw [Hn.out]; rfl
    go_enter Try.func26, Try.ntmps26
    go_wp2_with (first | (go_at_call 28; refine (of_calls _ _).mono ?_; rintro e w' ⟨rfl, rfl⟩))
    refine (isnone_calls _ _).mono ?_
    rintro e w1 ⟨rfl, rfl⟩
    rw [Hn.out]
    go_wp2_with fail
    refine (isinf_calls x hx Hn.out _).mono ?_
    rintro e w1 ⟨rfl, rfl⟩
    by_cases hi : rungOf x = infR
    · have Hi := Lib.hid hi
      rw [decide_eq_true hi]
      clear hi
      go_wp2_with fail
      go_ret
      exact ⟨ret_int (by rw [hk.out, if_pos Hi.out]), rfl⟩
    · have Hi := Lib.hid hi
      rw [decide_eq_false hi]
      clear hi
      by_cases h0 : rungOf x = 0
      · have hz : (FloatKind.f64.format.order x 0 == some Ordering.eq) = true := Hz.out.trans (decide_eq_true h0)
        have H0 := Lib.hid h0
        clear h0
        go_wp2_with fail
        go_ret
        exact ⟨ret_int (by rw [hk.out, if_neg Hi.out, if_pos H0.out]), rfl⟩
      · have hz : (FloatKind.f64.format.order x 0 == some Ordering.eq) = false := Hz.out.trans (decide_eq_false h0)
        have H0 := Lib.hid h0
        clear h0
        go_wp2_with fail
        go_ret
        exact ⟨ret_int (by rw [hk.out, if_neg Hi.out, if_neg H0.out]), rfl⟩
end Go.Proofs.Ytdljdepccpmifaa
