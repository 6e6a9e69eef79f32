/- Package num: what is less, kinds; the reference's kinds and ranks. -/
import Derived.Test.YtlnoejmckpimnaaNum
namespace Go.Proofs.Ytlnoejmckpimnaa
open Go.RowKit Ieee

def lessB (a b : Nat) : Bool := double.order a b == some .lt

theorem less_calls (x y : Nat) (w : World) : Calls Try.prog 34 #[.int .u64 (x : Int), .int .u64 (y : Int)] w fun e w' => e = .returned (.bool (lessB x y)) ∧ w' = w := by
  go_enter Try.func34, Try.ntmps34
  go_wp2_with (first | (go_at_call 47; refine (of_calls _ _).mono ?_; rintro e w' ⟨rfl, rfl⟩))
  go_ret
  exact ⟨rfl, rfl⟩

theorem rkind_calls (x : Nat) (hx : x < 18446744073709551616) (w : World) : Calls Try.prog 56 #[.int .u64 (x : Int)] w fun e w' => e = .returned (.int .i64 (kindN x)) ∧ w' = w := by
  have h3 := and_low x hx
  obtain ⟨r, hr⟩ : ∃ r, Hid (r = rungOf x) := ⟨_, rfl⟩
  have hk : Hid (kindN x = if infR < r then 3 else if r = infR then 2 else if r = 0 then 1 else 0) := by unfold Hid kindN nanB; rw [hr.out]; simp
  rw [← hr.out] at h3
  unfold infR at hk
  go_enter Try.func56, Try.ntmps56
  go_wp2_with fail
  all_goals
    go_ret
    refine ⟨ret_int ?_, rfl⟩
    rw [hk.out]
    simp only [beq_eq_false_iff_ne, beq_iff_eq, ne_eq] at *
    (repeat' split) <;> omega

theorem clean_calls (x : Nat) (hx : x < 18446744073709551616) (w : World) : Calls Try.prog 54 #[.int .u64 (x : Int)] w fun e w' => e = .returned (.int .u64 (cleanN x : Nat)) ∧ w' = w := by
  have hk : kindN x = 3 ↔ nanB x = true := by
    unfold kindN
    cases nanB x
    · simp
      (repeat' split) <;> omega
    · simp
  cases hn : nanB x with
  | true =>
    have h3 : Hid (kindN x = 3) := hk.2 hn
    have Hn := Lib.hid hn
    clear hn hk
    go_enter Try.func54, Try.ntmps54
    go_wp2_with fail
    refine (rkind_calls x hx _).mono ?_
    rintro e w1 ⟨rfl, rfl⟩
    rw [h3.out]
    go_wp2_with fail
    go_ret
    exact ⟨ret_int (by unfold cleanN; rw [Hn.out]; rfl), rfl⟩
  | false =>
    have h3 : (kindN x == 3) = false := by
      rw [beq_eq_false_iff_ne]
      intro h
      rw [hk.1 h] at hn
      cases hn
    have Hn := Lib.hid hn
    clear hn hk
    go_enter Try.func54, Try.ntmps54
    go_wp2_with fail
    refine (rkind_calls x hx _).mono ?_
    rintro e w1 ⟨rfl, rfl⟩
    go_wp2_with fail
    go_ret
    exact ⟨ret_int (by unfold cleanN; rw [Hn.out]; rfl), rfl⟩

def rankI (x : Nat) : Int := if signOf x then -(rungOf x : Int) - 1 else rungOf x

theorem rank_calls (x : Nat) (hx : x < 18446744073709551616) (w : World) : Calls Try.prog 57 #[.int .u64 (x : Int)] w fun e w' => e = .returned (.int .i64 (rankI x)) ∧ w' = w := by
  have h3 := and_low x hx
  obtain ⟨r, hr⟩ : ∃ r, Hid (r = rungOf x) := ⟨_, rfl⟩
  have hrl : Hid (r < 9223372036854775808) := by unfold Hid; rw [hr.out]; exact rung_lt x
  have hk : Hid (rankI x = if x / 9223372036854775808 = 1 then -(r : Int) - 1 else x) := by
    unfold Hid rankI signOf
    rw [hr.out]
    have hr' : rungOf x = x % 9223372036854775808 := rfl
    by_cases h : x / 9223372036854775808 = 1
    · rw [if_pos h, if_pos (by rw [h]; rfl)]
    · have h0 : x / 9223372036854775808 = 0 := by omega
      rw [if_neg h, if_neg (by rw [h0]; decide)]
      omega
  rw [← hr.out] at h3
  go_enter Try.func57, Try.ntmps57
  go_wp2_with fail
  all_goals
    go_ret
    refine ⟨ret_int ?_, rfl⟩
    rw [hk.out]
    have := hrl.out
    simp only [beq_eq_false_iff_ne, beq_iff_eq, ne_eq] at *
    unfold wrap64
    split <;> omega
end Go.Proofs.Ytlnoejmckpimnaa
