/- The reference of num: sums, the lesser and the greater one, what is less. -/
import Derived.Test.YtlnoejmckpimnaaNumD
namespace Go.Proofs.Ytlnoejmckpimnaa
open Go.RowKit Ieee

theorem two1_calls (x y : Nat) (w : World) : Calls Try.prog 37 #[.int .i64 1, .int .u64 (x : Int), .int .u64 (y : Int)] w fun e w' => e = .returned (.int .u64 (opN (double.add x y) : Nat)) ∧ Keeps NoBlock w w' := by
  obtain ⟨b, w1, hr, hg, hk, hb⟩ := run_float (P := Try.prog) .add 81 x y (by simp) w
  have h1 := fun w => run_frombits x w
  have h2 := fun w => run_frombits y w
  have h3 := fun w => run_bits b w
  have Hg := Lib.hid hg
  have Hb := Lib.hid hb
  clear hg hb
  go_enter Try.func37, Try.ntmps37
  go_wp2_with fail
  refine (clean_calls b Hb.out _).mono ?_
  rintro e w' ⟨rfl, rfl⟩
  go_wp2_with fail
  go_ret
  exact ⟨ret_int (by rw [gives_clean Hg.out]; rfl), hk⟩

theorem two2_calls (x y : Nat) (w : World) : Calls Try.prog 37 #[.int .i64 2, .int .u64 (x : Int), .int .u64 (y : Int)] w fun e w' => e = .returned (.int .u64 (opN (double.sub x y) : Nat)) ∧ Keeps NoBlock w w' := by
  obtain ⟨b, w1, hr, hg, hk, hb⟩ := run_float (P := Try.prog) .sub 81 x y (by simp) w
  have h1 := fun w => run_frombits x w
  have h2 := fun w => run_frombits y w
  have h3 := fun w => run_bits b w
  have Hg := Lib.hid hg
  have Hb := Lib.hid hb
  clear hg hb
  go_enter Try.func37, Try.ntmps37
  go_wp2_with fail
  refine (clean_calls b Hb.out _).mono ?_
  rintro e w' ⟨rfl, rfl⟩
  go_wp2_with fail
  go_ret
  exact ⟨ret_int (by rw [gives_clean Hg.out]; rfl), hk⟩

theorem two3_calls (x y : Nat) (w : World) : Calls Try.prog 37 #[.int .i64 3, .int .u64 (x : Int), .int .u64 (y : Int)] w fun e w' => e = .returned (.int .u64 (opN (double.mul x y) : Nat)) ∧ Keeps NoBlock w w' := by
  obtain ⟨b, w1, hr, hg, hk, hb⟩ := run_float (P := Try.prog) .mul 81 x y (by simp) w
  have h1 := fun w => run_frombits x w
  have h2 := fun w => run_frombits y w
  have h3 := fun w => run_bits b w
  have Hg := Lib.hid hg
  have Hb := Lib.hid hb
  clear hg hb
  go_enter Try.func37, Try.ntmps37
  go_wp2_with fail
  refine (clean_calls b Hb.out _).mono ?_
  rintro e w' ⟨rfl, rfl⟩
  go_wp2_with fail
  go_ret
  exact ⟨ret_int (by rw [gives_clean Hg.out]; rfl), hk⟩

theorem two4_calls (x y : Nat) (w : World) : Calls Try.prog 37 #[.int .i64 4, .int .u64 (x : Int), .int .u64 (y : Int)] w fun e w' => e = .returned (.int .u64 (opN (double.div x y) : Nat)) ∧ Keeps NoBlock w w' := by
  obtain ⟨b, w1, hr, hg, hk, hb⟩ := run_float (P := Try.prog) .quo 81 x y (by simp) w
  have h1 := fun w => run_frombits x w
  have h2 := fun w => run_frombits y w
  have h3 := fun w => run_bits b w
  have Hg := Lib.hid hg
  have Hb := Lib.hid hb
  clear hg hb
  go_enter Try.func37, Try.ntmps37
  go_wp2_with fail
  refine (clean_calls b Hb.out _).mono ?_
  rintro e w' ⟨rfl, rfl⟩
  go_wp2_with fail
  go_ret
  exact ⟨ret_int (by rw [gives_clean Hg.out]; rfl), hk⟩

theorem kind3 (x : Nat) : (kindN x == 3) = nanB x := by
  unfold kindN
  cases nanB x
  · simp
    (repeat' split) <;> omega
  · rfl
theorem kind1 (x : Nat) : (kindN x == 1) = decide (rungOf x = 0) := by
  unfold kindN nanB infR
  by_cases h0 : rungOf x = 0
  · rw [h0]; decide
  · rw [decide_eq_false h0]
    (repeat' split) <;> first | rfl | (exfalso; omega)

theorem rmin_calls (x y : Nat) (hx : x < 18446744073709551616) (hy : y < 18446744073709551616) (w : World) : Calls Try.prog 38 #[.int .u64 (x : Int), .int .u64 (y : Int)] w fun e w' => e = .returned (.int .u64 (lowN x y : Nat)) ∧ w' = w := by
  have k1 := kind3 x
  have k2 := kind3 y
  cases nx : nanB x with
  | true =>
    have K : Hid (lowN x y = noneW) := by unfold Hid lowN; rw [nx]; rfl
    rw [nx] at k1
    clear nx
    go_enter Try.func38, Try.ntmps38
    go_wp2_with fail
    refine (rkind_calls x hx _).mono ?_
    rintro e w1 ⟨rfl, rfl⟩
    go_wp2_with fail
    go_ret
    exact ⟨ret_int (by rw [K.out]; rfl), rfl⟩
  | false =>
    rw [nx] at k1
    cases ny : nanB y with
    | true =>
      have K : Hid (lowN x y = noneW) := by unfold Hid lowN; rw [nx, ny]; rfl
      rw [ny] at k2
      clear nx ny
      go_enter Try.func38, Try.ntmps38
      go_wp2_with fail
      refine (rkind_calls x hx _).mono ?_
      rintro e w1 ⟨rfl, rfl⟩
      go_wp2_with fail
      refine (rkind_calls y hy _).mono ?_
      rintro e w1 ⟨rfl, rfl⟩
      go_wp2_with fail
      go_ret
      exact ⟨ret_int (by rw [K.out]; rfl), rfl⟩
    | false =>
      have K : Hid (lowN x y = if rankI x < rankI y then x else y) := by unfold Hid lowN minN; rw [nx, ny]; rfl
      rw [ny] at k2
      clear nx ny
      have hc : (rankI x < rankI y) ∨ (rankI y ≤ rankI x) := by omega
      rcases hc with hc | hc
      all_goals
        go_enter Try.func38, Try.ntmps38
        go_wp2_with fail
        refine (rkind_calls x hx _).mono ?_
        rintro e w1 ⟨rfl, rfl⟩
        go_wp2_with fail
        refine (rkind_calls y hy _).mono ?_
        rintro e w1 ⟨rfl, rfl⟩
        go_wp2_with fail
        refine (rank_calls x hx _).mono ?_
        rintro e w1 ⟨rfl, rfl⟩
        go_wp2_with fail
        refine (rank_calls y hy _).mono ?_
        rintro e w1 ⟨rfl, rfl⟩
        go_wp2_with fail
        go_ret
        exact ⟨ret_int (by rw [K.out]; first | rw [if_pos hc] | rw [if_neg (by omega)]), rfl⟩

theorem rmax_calls (x y : Nat) (hx : x < 18446744073709551616) (hy : y < 18446744073709551616) (w : World) : Calls Try.prog 39 #[.int .u64 (x : Int), .int .u64 (y : Int)] w fun e w' => e = .returned (.int .u64 (highN x y : Nat)) ∧ w' = w := by
  have k1 := kind3 x
  have k2 := kind3 y
  cases nx : nanB x with
  | true =>
    have K : Hid (highN x y = noneW) := by unfold Hid highN; rw [nx]; rfl
    rw [nx] at k1
    clear nx
    go_enter Try.func39, Try.ntmps39
    go_wp2_with fail
    refine (rkind_calls x hx _).mono ?_
    rintro e w1 ⟨rfl, rfl⟩
    go_wp2_with fail
    go_ret
    exact ⟨ret_int (by rw [K.out]; rfl), rfl⟩
  | false =>
    rw [nx] at k1
    cases ny : nanB y with
    | true =>
      have K : Hid (highN x y = noneW) := by unfold Hid highN; rw [nx, ny]; rfl
      rw [ny] at k2
      clear nx ny
      go_enter Try.func39, Try.ntmps39
      go_wp2_with fail
      refine (rkind_calls x hx _).mono ?_
      rintro e w1 ⟨rfl, rfl⟩
      go_wp2_with fail
      refine (rkind_calls y hy _).mono ?_
      rintro e w1 ⟨rfl, rfl⟩
      go_wp2_with fail
      go_ret
      exact ⟨ret_int (by rw [K.out]; rfl), rfl⟩
    | false =>
      have K : Hid (highN x y = if rankI y < rankI x then x else y) := by unfold Hid highN maxN; rw [nx, ny]; rfl
      rw [ny] at k2
      clear nx ny
      have hc : (rankI y < rankI x) ∨ (rankI x ≤ rankI y) := by omega
      rcases hc with hc | hc
      all_goals
        go_enter Try.func39, Try.ntmps39
        go_wp2_with fail
        refine (rkind_calls x hx _).mono ?_
        rintro e w1 ⟨rfl, rfl⟩
        go_wp2_with fail
        refine (rkind_calls y hy _).mono ?_
        rintro e w1 ⟨rfl, rfl⟩
        go_wp2_with fail
        refine (rank_calls x hx _).mono ?_
        rintro e w1 ⟨rfl, rfl⟩
        go_wp2_with fail
        refine (rank_calls y hy _).mono ?_
        rintro e w1 ⟨rfl, rfl⟩
        go_wp2_with fail
        go_ret
        exact ⟨ret_int (by rw [K.out]; first | rw [if_pos hc] | rw [if_neg (by omega)]), rfl⟩
end Go.Proofs.Ytlnoejmckpimnaa
