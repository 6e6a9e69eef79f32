/- The statement NumInts. -/
import Derived.Test.YtdljdepccpmifaaNumU
namespace Go.Proofs.Ytdljdepccpmifaa
open Go.RowKit Ieee

theorem rtofloat_zero (w : World) : Calls Try.prog 25 #[.int .u64 0] w fun e w' => e = .returned (.int .u64 (floatW (wrap64 ((0 : Nat) : Int)) : Nat)) ∧ w' = w := by
  have v0 : Hid (floatW (wrap64 ((0 : Nat) : Int)) = 0) := by unfold Hid; decide +kernel
  go_enter Try.func25, Try.ntmps25
  go_wp2_with fail
  go_ret
  exact ⟨ret_int (by rw [v0.out]; rfl), rfl⟩

theorem rtofloat_calls (x : Nat) (hx : x < 18446744073709551616) (w : World) : Calls Try.prog 25 #[.int .u64 (x : Int)] w fun e w' => e = .returned (.int .u64 (floatW (wrap64 (x : Int)) : Nat)) ∧ w' = w := by
  by_cases h0 : x = 0
  · subst h0; exact rtofloat_zero w
  · by_cases h : x < 9223372036854775808
    · exact rtofloat_pos x h h0 w
    · exact rtofloat_neg x hx (by omega) w

theorem ints_row (w : World) (a : Int) (wa : (Lit.int .u64 a).wf = true) : Calls Try.prog 5 #[.int .u64 a] w fun e w' => e = .returned (.bool true) ∧ Below w.heap.size w w' := by
  show Calls Try.prog 5 #[.int .u64 a] w (NYes w)
  obtain ⟨x, rfl, hx⟩ := word_of wa
  have Hx := Lib.hid hx
  clear wa hx
  have e1 := eq_self (toIntN x : Nat)
  have e2 := eq_self (floatW (wrap64 (x : Int)) : Nat)
  have e3 := eq_self (kindN x)
  go_enter Try.func5, Try.ntmps5
  go_wp2_with fail
  refine (awake_calls _).mono ?_
  rintro e w1 ⟨rfl, k1⟩
  go_wp2_with fail
  refine (toint_calls x _).mono ?_
  rintro e w2 ⟨rfl, rfl⟩
  go_wp2_with fail
  refine (rtoint_calls x Hx.out _).mono ?_
  rintro e w2 ⟨rfl, rfl⟩
  go_wp2_with fail
  refine (tofloat_calls x _).mono ?_
  rintro e w2 ⟨rfl, rfl⟩
  go_wp2_with fail
  refine (rtofloat_calls x Hx.out _).mono ?_
  rintro e w2 ⟨rfl, rfl⟩
  go_wp2_with fail
  refine (kind_calls x Hx.out _).mono ?_
  rintro e w2 ⟨rfl, rfl⟩
  go_wp2_with fail
  refine (rkind_calls x Hx.out _).mono ?_
  rintro e w2 ⟨rfl, rfl⟩
  go_wp2_with fail
  go_ret
  exact yes_of (by first | rfl | exact e3) k1
end Go.Proofs.Ytdljdepccpmifaa
