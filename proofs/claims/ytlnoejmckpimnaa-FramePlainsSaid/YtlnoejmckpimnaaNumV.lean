/- The statement NumInts. -/
import Derived.Test.YtlnoejmckpimnaaNumU
namespace Go.Proofs.Ytlnoejmckpimnaa
open Go.RowKit Ieee

theorem rtofloat_zero (w : World) : Calls Try.prog 42 #[.int .u64 0] w fun e w' => e = .returned (.int .u64 (floatW (wrap64 ((0 : Nat) : Int)) : Nat)) ∧ w' = w := by
  have v0 : Hid (floatW (wrap64 ((0 : Nat) : Int)) = 0) := by unfold Hid; decide +kernel
  go_enter Try.func42, Try.ntmps42
  go_wp2_with fail
  go_ret
  exact ⟨ret_int (by rw [v0.out]; rfl), rfl⟩

theorem rtofloat_calls (x : Nat) (hx : x < 18446744073709551616) (w : World) : Calls Try.prog 42 #[.int .u64 (x : Int)] w fun e w' => e = .returned (.int .u64 (floatW (wrap64 (x : Int)) : Nat)) ∧ w' = w := by
  by_cases h0 : x = 0
  · subst h0; exact rtofloat_zero w
  · by_cases h : x < 9223372036854775808
    · exact rtofloat_pos x h h0 w
    · exact rtofloat_neg x hx (by omega) w

end Go.Proofs.Ytlnoejmckpimnaa
