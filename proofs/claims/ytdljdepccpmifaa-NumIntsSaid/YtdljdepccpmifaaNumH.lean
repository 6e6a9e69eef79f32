/- The statements NumTwo and NumMin; the fixed fact. -/
import Derived.Test.YtdljdepccpmifaaNumG
namespace Go.Proofs.Ytdljdepccpmifaa
open Go.RowKit Ieee

theorem kall (a b : World) (h : Keeps NoBlock a b) (c : World) (k : Keeps NoBlock b c) : Keeps NoBlock a c := h.trans k (fun _ _ h => h)
theorem awake_calls (w : World) : Calls Try.prog 10 #[] w fun e w' => e = .returned (.bool true) ∧ Keeps NoBlock w w' := by
  have v0 : floatW (wrap64 ((0 : Nat) : Int)) = 0 := by decide +kernel
  have v1 : floatW (wrap64 ((1 : Nat) : Int)) = 4607182418800017408 := by decide +kernel
  have v2 : floatW (wrap64 ((2 : Nat) : Int)) = 4611686018427387904 := by decide +kernel
  have a1 : opN (double.add 4607182418800017408 4607182418800017408) = 4611686018427387904 := by decide +kernel
  have d1 : opN (double.div 4607182418800017408 0) = 9218868437227405312 := by decide +kernel
  have s1 : opN (double.sub 9218868437227405312 9218868437227405312) = 9221120237041090560 := by decide +kernel
  have k1 : kindN 9221120237041090560 = 3 := by decide +kernel
  have n1 : lowN 0 9223372036854775808 = 9223372036854775808 := by decide +kernel
  have m1 : opN (double.mul 4611686018427387904 4611686018427387904) = 4616189618054758400 := by decide +kernel
  have t1 : toIntN 4616189618054758400 = 4 := by decide +kernel
  have l1 : lessB 4607182418800017408 4611686018427387904 = true := by decide +kernel
  have x1 : highN 4607182418800017408 4611686018427387904 = 4611686018427387904 := by decide +kernel
  go_enter Try.func10, Try.ntmps10
  go_wp2_with fail
  refine (tofloat_calls 1 _).mono ?_
  rintro e w1 ⟨rfl, rfl⟩
  rw [v1]
  go_wp2_with fail
  refine (tofloat_calls 2 _).mono ?_
  rintro e w1 ⟨rfl, rfl⟩
  rw [v2]
  go_wp2_with fail
  refine (add_calls 4607182418800017408 4607182418800017408 _).mono ?_
  rintro e w1 ⟨rfl, k01⟩
  rw [a1]
  go_wp2_with fail
  refine (tofloat_calls 0 _).mono ?_
  rintro e w2 ⟨rfl, rfl⟩
  rw [v0]
  go_wp2_with fail
  refine (div_calls 4607182418800017408 0 _).mono ?_
  rintro e w2 ⟨rfl, k02⟩
  rw [d1]
  go_wp2_with fail
  refine (div_calls 4607182418800017408 0 _).mono ?_
  rintro e w3 ⟨rfl, k03⟩
  rw [d1]
  go_wp2_with fail
  refine (div_calls 4607182418800017408 0 _).mono ?_
  rintro e w4 ⟨rfl, k04⟩
  rw [d1]
  go_wp2_with fail
  refine (sub_calls 9218868437227405312 9218868437227405312 _).mono ?_
  rintro e w5 ⟨rfl, k05⟩
  rw [s1]
  go_wp2_with fail
  refine (kind_calls 9221120237041090560 (by decide) _).mono ?_
  rintro e w6 ⟨rfl, rfl⟩
  rw [k1]
  go_wp2_with fail
  refine (min_calls 0 9223372036854775808 (by decide) (by decide) _).mono ?_
  rintro e w6 ⟨rfl, rfl⟩
  rw [n1]
  go_wp2_with fail
  refine (mul_calls 4611686018427387904 4611686018427387904 _).mono ?_
  rintro e w6 ⟨rfl, k06⟩
  rw [m1]
  go_wp2_with fail
  refine (toint_calls 4616189618054758400 _).mono ?_
  rintro e w7 ⟨rfl, rfl⟩
  rw [t1]
  go_wp2_with fail
  refine (less_calls 4607182418800017408 4611686018427387904 _).mono ?_
  rintro e w7 ⟨rfl, rfl⟩
  rw [l1]
  go_wp2_with fail
  refine (max_calls 4607182418800017408 4611686018427387904 (by decide) (by decide) _).mono ?_
  rintro e w7 ⟨rfl, rfl⟩
  rw [x1]
  go_wp2_with fail
  go_ret
  exact ⟨rfl, kall _ _ (kall _ _ (kall _ _ (kall _ _ (kall _ _ k01 _ k02) _ k03) _ k04) _ k05) _ k06⟩
end Go.Proofs.Ytdljdepccpmifaa
