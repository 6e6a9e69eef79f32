/- The statement NumSigns. -/
import Derived.Test.YtdljdepccpmifaaNumN
namespace Go.Proofs.Ytdljdepccpmifaa
open Go.RowKit Ieee

theorem signs_none (x : Nat) (hx : x < 18446744073709551616) (hn : nanB x = true) (w : World) : Calls Try.prog 8 #[.int .u64 (x : Int)] w (NYes w) := by
  have v1 : floatW (wrap64 ((1 : Nat) : Int)) = 4607182418800017408 := by decide +kernel
  have x1 : Go.bits .xor .u64 4607182418800017408 9223372036854775808 = 13830554455654793216 := by decide +kernel
  have c1 := kind3 x
  rw [hn] at c1
  have N1 := Lib.hid (mul_none hn 13830554455654793216)
  have N2 := Lib.hid (mul_none hn 4607182418800017408)
  have k3 : kindN noneW = 3 := by decide +kernel
  have e1 := eq_self (noneW : Nat)
  have Hx := Lib.hid hx
  clear hx hn
  go_enter Try.func8, Try.ntmps8
  go_wp2_with fail
  refine (tofloat_calls 1 _).mono ?_
  rintro e w1 ⟨rfl, rfl⟩
  rw [v1]
  go_wp2_with fail
  refine (kind_calls x Hx.out _).mono ?_
  rintro e w1 ⟨rfl, rfl⟩
  go_wp2_with fail
  refine (awake_calls _).mono ?_
  rintro e w1 ⟨rfl, k1⟩
  go_wp2_with fail
  refine (mul_calls x 13830554455654793216 _).mono ?_
  rintro e w2 ⟨rfl, k2⟩
  rw [N1.out]
  go_wp2_with fail
  refine (mul_calls x 4607182418800017408 _).mono ?_
  rintro e w3 ⟨rfl, k4⟩
  rw [N2.out]
  go_wp2_with fail
  refine (mul_calls x 4607182418800017408 _).mono ?_
  rintro e w4 ⟨rfl, k5⟩
  rw [N2.out]
  go_wp2_with fail
  refine (kind_calls noneW (by decide) _).mono ?_
  rintro e w5 ⟨rfl, rfl⟩
  rw [k3]
  go_wp2_with fail
  go_ret
  exact yes_of rfl (kall _ _ (kall _ _ (kall _ _ k1 _ k2) _ k4) _ k5)

theorem signs_some (x : Nat) (hx : x < 18446744073709551616) (hn : nanB x = false) (w : World) : Calls Try.prog 8 #[.int .u64 (x : Int)] w (NYes w) := by
  have v1 : floatW (wrap64 ((1 : Nat) : Int)) = 4607182418800017408 := by decide +kernel
  have x1 : Go.bits .xor .u64 4607182418800017408 9223372036854775808 = 13830554455654793216 := by decide +kernel
  have c1 := kind3 x
  rw [hn] at c1
  have N1 := Lib.hid (mul_minus hx hn)
  have N2 := Lib.hid (mul_one' hx hn)
  have N3 := Lib.hid (div_one' hx hn)
  have N4 := Lib.hid (sub_nought hx hn)
  have c5 := xor_flip x hx
  have e1 := eq_self x
  have e2 := eq_self (flipN x)
  have Hx := Lib.hid hx
  clear hx hn
  go_enter Try.func8, Try.ntmps8
  go_wp2_with fail
  refine (tofloat_calls 1 _).mono ?_
  rintro e w1 ⟨rfl, rfl⟩
  rw [v1]
  go_wp2_with fail
  refine (kind_calls x Hx.out _).mono ?_
  rintro e w1 ⟨rfl, rfl⟩
  go_wp2_with fail
  refine (awake_calls _).mono ?_
  rintro e w1 ⟨rfl, k1⟩
  go_wp2_with fail
  refine (mul_calls x 13830554455654793216 _).mono ?_
  rintro e w2 ⟨rfl, k2⟩
  rw [N1.out]
  go_wp2_with fail
  refine (mul_calls x 4607182418800017408 _).mono ?_
  rintro e w3 ⟨rfl, k3⟩
  rw [N2.out]
  go_wp2_with fail
  refine (div_calls x 4607182418800017408 _).mono ?_
  rintro e w4 ⟨rfl, k4⟩
  rw [N3.out]
  go_wp2_with fail
  refine (sub_calls x 0 _).mono ?_
  rintro e w5 ⟨rfl, k5⟩
  rw [N4.out]
  go_wp2_with fail
  go_ret
  exact yes_of (by first | rfl | exact e1) (kall _ _ (kall _ _ (kall _ _ (kall _ _ k1 _ k2) _ k3) _ k4) _ k5)

theorem signs_row (w : World) (a : Int) (wa : (Lit.int .u64 a).wf = true) : Calls Try.prog 8 #[.int .u64 a] w fun e w' => e = .returned (.bool true) ∧ Below w.heap.size w w' := by
  obtain ⟨x, rfl, hx⟩ := word_of wa
  cases nx : nanB x
  · exact signs_some x hx nx w
  · exact signs_none x hx nx w
end Go.Proofs.Ytdljdepccpmifaa
